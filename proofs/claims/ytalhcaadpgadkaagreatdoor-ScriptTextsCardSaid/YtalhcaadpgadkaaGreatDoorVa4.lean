/- Own work, over the shadow machine: SVal4. -/
import Derived.Test.YtalhcaadpgadkaaGreatDoorVa2
import Derived.Test.YtalhcaadpgadkaaGreatDoorVa3
set_option linter.all false
namespace Go.Proofs.YtalhcaadpgadkaaGreatDoor
open Go.Sh
set_option maxRecDepth 100000
theorem ba_ext {a b : ByteArray} (h : a.data.toList = b.data.toList) : a = b := by
  rcases a with ⟨a⟩; rcases b with ⟨b⟩
  have : a = b := Array.toList_inj.1 h
  rw [this]

theorem add_ok {a b : ByteArray} (h : a.size + b.size ≤ 100000) : gStr .add a b = some (.str (a ++ b)) := by
  simp only [gStr]; rw [if_pos (by simp [maxLen]; omega)]

theorem ba_size (l : List UInt8) : (⟨l.toArray⟩ : ByteArray).size = l.length := by
  show l.toArray.size = _
  simp

theorem bs_size (a : ByteArray) : a.size = a.data.toList.length := by simp

theorem tb1 (x : Int) : toBytes [.int .u8 x] = some [UInt8.ofNat x.toNat] := rfl

theorem itoa_len (n : Int) (h1 : -1099511627776 ≤ n) (h2 : n ≤ 1099511627776) : (Lib.itoa n).length ≤ 20 := by
  unfold Lib.itoa
  split
  · have := nDigits_le 15 n.natAbs (by omega) (by omega)
    simp [Lib.decDigits_length]; omega
  · have := nDigits_le 15 n.toNat (by omega) (by omega)
    simp [Lib.decDigits_length]; omega

theorem digits (N : Nat) : ∀ n : Int, n.natAbs = N → -1099511627776 ≤ n → n ≤ 1099511627776 → ∀ H : GH, ecall T f_hedgerowref01_Digits [.int .i64 n] H = some (.str ⟨(Lib.itoa n).toArray⟩, H) := by
  induction N using Nat.strongRecOn with
  | _ N ih =>
    intro n hN h1 h2 H
    apply optW.eq
    rw [ecall_0 T_hedgerowref01_Digits rfl (by simp [F_hedgerowref01_Digits]), wp_fin1]
    rw [itoa_rec]
    simp only [F_hedgerowref01_Digits, b_hedgerowref01_Digits]
    by_cases hn : n < 0
    · by_cases hn10 : -10 < n
      · have w1 : IntKind.i64.wrap (48 - n) = 48 - n := wrap_i64' (by omega) (by omega)
        have w2 : IntKind.u8.wrap (48 - n) = 48 - n := wrap_u8' (by omega) (by omega)
        have ha : gStr .add (⟨#[45]⟩ : ByteArray) ⟨#[UInt8.ofNat (48 - n).toNat]⟩ = _ := add_ok (by show (1 : Nat) + 1 ≤ _; omega)
        simp [hn, hn10, w1, w2, gSetAll, tb1, ha]
        apply ba_ext
        have : (48 - n).toNat = 48 + n.natAbs := by omega
        simp [this]
      · obtain ⟨m, hm⟩ : ∃ m : Nat, n = -(m : Int) := ⟨n.natAbs, by omega⟩
        have eq : n.tdiv 10 = -((m / 10 : Nat) : Int) := by rw [hm, Int.neg_tdiv]; simp
        have er : n.tmod 10 = -((m % 10 : Nat) : Int) := by rw [hm, Int.neg_tmod]; congr 1
        have hq : IntKind.i64.wrap (n.tdiv 10) = n.tdiv 10 := wrap_i64' (by omega) (by omega)
        have hi := ih (n.tdiv 10).natAbs (by omega) (n.tdiv 10) rfl (by omega) (by omega) H
        have w1 : IntKind.i64.wrap (48 - n.tmod 10) = 48 - n.tmod 10 := wrap_i64' (by omega) (by omega)
        have w2 : IntKind.u8.wrap (48 - n.tmod 10) = 48 - n.tmod 10 := wrap_u8' (by omega) (by omega)
        have hlen := itoa_len (n.tdiv 10) (by omega) (by omega)
        have ha : gStr .add ⟨(Lib.itoa (n.tdiv 10)).toArray⟩ ⟨#[UInt8.ofNat (48 - n.tmod 10).toNat]⟩ = _ := add_ok (by rw [ba_size]; show _ + (1 : Nat) ≤ _; omega)
        simp [hn, hn10, hq, hi, w1, w2, gSetAll, tb1, ha, gInt]
        apply ba_ext
        have : (48 - n.tmod 10).toNat = 48 + (n.tmod 10).natAbs := by omega
        simp [this]
    · by_cases hn10 : n < 10
      · have w1 : IntKind.i64.wrap (48 + n) = 48 + n := wrap_i64' (by omega) (by omega)
        have w2 : IntKind.u8.wrap (48 + n) = 48 + n := wrap_u8' (by omega) (by omega)
        simp [hn, hn10, w1, w2, gSetAll, tb1]
        have : (48 + n).toNat = 48 + n.natAbs := by omega
        rw [this]; exact UInt8.ofNat_add 48 _
      · obtain ⟨m, hm⟩ : ∃ m : Nat, n = (m : Int) := ⟨n.natAbs, by omega⟩
        have eq : n.tdiv 10 = ((m / 10 : Nat) : Int) := by rw [hm]; simp
        have er : n.tmod 10 = ((m % 10 : Nat) : Int) := by rw [hm]; exact (Int.ofNat_tmod m 10).symm
        have hq : IntKind.i64.wrap (n.tdiv 10) = n.tdiv 10 := wrap_i64' (by omega) (by omega)
        have hi := ih (n.tdiv 10).natAbs (by omega) (n.tdiv 10) rfl (by omega) (by omega) H
        have w1 : IntKind.i64.wrap (48 + n.tmod 10) = 48 + n.tmod 10 := wrap_i64' (by omega) (by omega)
        have w2 : IntKind.u8.wrap (48 + n.tmod 10) = 48 + n.tmod 10 := wrap_u8' (by omega) (by omega)
        have hlen := itoa_len (n.tdiv 10) (by omega) (by omega)
        have ha : gStr .add ⟨(Lib.itoa (n.tdiv 10)).toArray⟩ ⟨#[UInt8.ofNat (48 + n.tmod 10).toNat]⟩ = _ := add_ok (by rw [ba_size]; show _ + (1 : Nat) ≤ _; omega)
        simp [hn, hn10, hq, hi, w1, w2, gSetAll, tb1, ha, gInt]
        apply ba_ext
        have : (48 + n.tmod 10).toNat = 48 + (n.tmod 10).natAbs := by omega
        simp [this]

theorem ref_Digits (n : Int) (h1 : -1099511627776 ≤ n) (h2 : n ≤ 1099511627776) (H : GH) : ecall T f_hedgerowref01_Digits [.int .i64 n] H = some (.str ⟨(Lib.itoa n).toArray⟩, H) := digits _ n rfl h1 h2 H

theorem fmt_bool (b : Bool) (H : GH) : ecall T f_strconv_FormatBool [.bool b] H = some (.str (if b = true then ⟨#[116, 114, 117, 101]⟩ else ⟨#[102, 97, 108, 115, 101]⟩), H) := by
  have h88 : ecall T f_strconv_FormatBool_62 [.bool b] H = some (.str (if b = true then ⟨#[116, 114, 117, 101]⟩ else ⟨#[102, 97, 108, 115, 101]⟩), H) := by
    apply optW.eq
    rw [ecall_0 T_strconv_FormatBool_62 rfl (by simp [F_strconv_FormatBool_62]), wp_fin1]
    cases b <;> simp [F_strconv_FormatBool_62, b_strconv_FormatBool_62]
  apply optW.eq
  rw [ecall_0 T_strconv_FormatBool rfl (by simp [F_strconv_FormatBool]), wp_fin1]
  simp [F_strconv_FormatBool, b_strconv_FormatBool, h88]

theorem itoa_lib (n : Int) (h1 : -9223372036854775808 ≤ n) (h2 : n ≤ 9223372036854775807) (H : GH) : ecall T f_strconv_Itoa [.int .i64 n] H = some (.str ⟨(Lib.itoa n).toArray⟩, H) := by
  rw [ecall_lib T_strconv_Itoa (by decide) (by simp [F_strconv_Itoa])]
  simp [libH, libP, lItoa, F_strconv_Itoa, h1, h2]

theorem value_String (k n : Int) (s : ByteArray) (hs : s.size ≤ 1000) (hn1 : -9223372036854775808 ≤ n) (hn2 : n ≤ 9223372036854775807) (H : GH) :
    ecall T f_value_String [.agg [.int .i64 k, .int .i64 n, .str s]] H = some (.str ⟨(txtV k n s.data.toList).toArray⟩, H) := by
  apply optW.eq
  rw [ecall_0 T_value_String rfl (by simp [F_value_String]), wp_fin1]
  have hr := value_Right k n s hs hn1 hn2 H
  unfold txtV
  cases hrv : rightV k n s.data.toList <;> rw [hrv] at hr
  · simp [F_value_String, b_value_String, hr]
  · rcases right_cases hrv with ⟨rfl, h2, h3⟩ | ⟨rfl, h2, h3⟩ | ⟨rfl, h2, h3⟩ | ⟨rfl, h1, h2, h3⟩ | ⟨rfl, h2⟩ | ⟨rfl, h2⟩ | ⟨rfl, h2⟩
    · simp [F_value_String, b_value_String, hr, txtR]
    · subst h2
      have hf := fmt_bool false H
      simp [F_value_String, b_value_String, hr, txtR, hf]
    · subst h2
      have hf := fmt_bool true H
      simp [F_value_String, b_value_String, hr, txtR, hf]
    · simp [F_value_String, b_value_String, hr, txtR, itoa_lib n hn1 hn2]
    · simp [F_value_String, b_value_String, hr, txtR, value_quoted s hs]
    · have a1 : gStr .add (⟨#[40]⟩ : ByteArray) s = _ := add_ok (by show (1 : Nat) + _ ≤ _; omega)
      have a2 : gStr .add ((⟨#[40]⟩ : ByteArray) ++ s) (⟨#[41]⟩ : ByteArray) = _ := add_ok (by rw [bs_size]; show _ + (1 : Nat) ≤ _; simp; omega)
      simp [F_value_String, b_value_String, hr, txtR, a1, a2]
      apply ba_ext; simp
    · have a1 : gStr .add (⟨#[91]⟩ : ByteArray) s = _ := add_ok (by show (1 : Nat) + _ ≤ _; omega)
      have a2 : gStr .add ((⟨#[91]⟩ : ByteArray) ++ s) (⟨#[93]⟩ : ByteArray) = _ := add_ok (by rw [bs_size]; show _ + (1 : Nat) ≤ _; simp; omega)
      simp [F_value_String, b_value_String, hr, txtR, a1, a2]
      apply ba_ext; simp

theorem slice1 {s : ByteArray} {i : Nat} {c : UInt8} {cs : List UInt8} (hd : s.data.toList.drop i = c :: cs) : gBounds s.size true true false [.int .i64 (i : Int), .int .i64 ((i : Int) + 1)] = some (i, i + 1, none) ∧ (s.extract i (i + 1)).data.toList = [c] ∧ (s.extract i (i + 1)).size = 1 := by
  obtain ⟨hg, hi, _⟩ := drop_some hd
  have hsz := bs_size s
  have e1 : gBound s.size (.int .i64 ((i : Int) + 1)) = some (i + 1) := by simp only [gBound]; rw [if_pos (by omega)]; congr 1
  have e2 : gBound (i + 1) (.int .i64 (i : Int)) = some i := by simp only [gBound]; rw [if_pos (by omega)]; simp
  have hxs : (s.extract i (i + 1)).data.toList = [c] := by rw [Lib.extract_data, show i + 1 - i = 1 by omega, hd]; rfl
  exact ⟨by simp [gBounds, e1, e2], hxs, by rw [bs_size, hxs]; rfl⟩

theorem rtext_loop (s : ByteArray) (hs : s.size ≤ 1000) (kv nv : GV) (g1 : Nat) (cs : List UInt8) : ∀ (i : Nat) (_ : s.data.toList.drop i = cs) (l : List GV) (g : Nat) (H : GH) (K : GExit × St → Prop) (acc : ByteArray)
    (_ : lget l 1 = .lbox g1 [kv, nv, .str s]) (_ : lget l 3 = .str acc) (_ : lget l 4 = .int .i64 i) (_ : acc.size + 2 * cs.length ≤ 10000)
    (_ : ∀ (l' : List GV) (acc' : ByteArray), lget l' 3 = .str acc' → acc'.data.toList = acc.data.toList ++ quoL cs → K (.exit 1, ⟨⟨l', g⟩, H⟩)),
    optW (erun T (.loop L0_hedgerowref01_Text) ⟨⟨l, g⟩, H⟩) K := by
  induction cs with
  | nil =>
    intro i hd l g H K acc h1 h3 h4 hl he
    have hlen := drop_none hd
    have hge : ¬ ((i : Int) < s.size) := by
      have := bs_size s
      omega
    rw [run_loop]
    simp [L0_hedgerowref01_Text, h1, h4, hge]
    exact he _ acc (by simp [h3]) (by simp [quoL])
  | cons c cs ih =>
    intro i hd l g H K acc h1 h3 h4 hl he
    obtain ⟨hg, hi, hd'⟩ := drop_some hd
    obtain ⟨hgb, hxs, hxz⟩ := slice1 hd
    have hsz := bs_size s
    have hlt : (i : Int) < s.size := by omega
    have hix := ix_ok hlt
    have hw : IntKind.i64.wrap ((i : Int) + 1) = (i : Int) + 1 := wrap_i64' (by omega) (by omega)
    have hg' : s.data[i]? = some c := by simpa using hg
    simp only [List.length_cons] at hl
    rw [run_loop, wp_seqK]
    by_cases h39 : c = 39 ∨ c = 92
    · have a1 : gStr .add acc (⟨#[92]⟩ : ByteArray) = _ := add_ok (by show _ + (1 : Nat) ≤ _; omega)
      have z1 : (acc ++ (⟨#[92]⟩ : ByteArray)).size = acc.size + 1 := by
        rw [bs_size, bs_size acc]; simp
      have a2 : gStr .add (acc ++ (⟨#[92]⟩ : ByteArray)) (s.extract i (i + 1)) = _ := add_ok (by rw [hxz, z1]; omega)
      have z2 : (acc ++ (⟨#[92]⟩ : ByteArray) ++ s.extract i (i + 1)).size = acc.size + 2 := by
        rw [ByteArray.size_append, z1, hxz]
      rcases h39 with rfl | rfl
      · simp [L0_hedgerowref01_Text, h1, h3, h4, hlt, hix, str_get, hg', hw, gSetAll, tb1, a1, a2, hgb]
        refine ih (i + 1) hd' _ g H K (acc ++ (⟨#[92]⟩ : ByteArray) ++ s.extract i (i + 1)) ?_ ?_ ?_ (by rw [z2]; omega) ?_
        · simp [h1]
        · simp
        · simp
        · intro l' acc' e1 e2
          refine he l' acc' e1 ?_
          rw [e2, ByteArray.data_append, Array.toList_append, hxs]
          simp [quoL]
      · simp [L0_hedgerowref01_Text, h1, h3, h4, hlt, hix, str_get, hg', hw, gSetAll, tb1, a1, a2, hgb]
        refine ih (i + 1) hd' _ g H K (acc ++ (⟨#[92]⟩ : ByteArray) ++ s.extract i (i + 1)) ?_ ?_ ?_ (by rw [z2]; omega) ?_
        · simp [h1]
        · simp
        · simp
        · intro l' acc' e1 e2
          refine he l' acc' e1 ?_
          rw [e2, ByteArray.data_append, Array.toList_append, hxs]
          simp [quoL]
    · have hn1 : ¬ c = 39 := fun h => h39 (.inl h)
      have hn2 : ¬ c = 92 := fun h => h39 (.inr h)
      have n1 : ¬ c.toNat = 39 := fun h => hn1 (UInt8.toNat_inj.1 h)
      have n2 : ¬ c.toNat = 92 := fun h => hn2 (UInt8.toNat_inj.1 h)
      have b1 : ¬ (c.toNat : Int) = 39 := by omega
      have b2 : ¬ (c.toNat : Int) = 92 := by omega
      have a2 : gStr .add acc (s.extract i (i + 1)) = _ := add_ok (by rw [hxz]; omega)
      have z2 : (acc ++ s.extract i (i + 1)).size = acc.size + 1 := by rw [ByteArray.size_append, hxz]
      simp [L0_hedgerowref01_Text, h1, h3, h4, hlt, hix, str_get, hg', hw, a2, hgb, n1, n2, b1, b2]
      refine ih (i + 1) hd' _ g H K (acc ++ s.extract i (i + 1)) ?_ ?_ ?_ (by rw [z2]; omega) ?_
      · simp [h1]
      · simp
      · simp
      · intro l' acc' e1 e2
        refine he l' acc' e1 ?_
        rw [e2, ByteArray.data_append, Array.toList_append, hxs]
        simp [quoL, hn1, hn2]

theorem ref_Text (k n : Int) (s : ByteArray) (hs : s.size ≤ 1000) (H : GH) :
    ecall T f_hedgerowref01_Text [.agg [.int .i64 k, .int .i64 n, .str s]] H = some (.str ⟨(txtV k n s.data.toList).toArray⟩, H) := by
  apply optW.eq
  rw [ecall_0 T_hedgerowref01_Text rfl (by simp [F_hedgerowref01_Text]), wp_fin1]
  have hr := ref_Right k n s (by omega) H
  unfold txtV
  cases hrv : rightV k n s.data.toList <;> rw [hrv] at hr
  · simp [F_hedgerowref01_Text, b_hedgerowref01_Text, hr]
  · rcases right_cases hrv with ⟨rfl, h2, h3⟩ | ⟨rfl, h2, h3⟩ | ⟨rfl, h2, h3⟩ | ⟨rfl, h1, h2, h3⟩ | ⟨rfl, h2⟩ | ⟨rfl, h2⟩ | ⟨rfl, h2⟩
    · simp [F_hedgerowref01_Text, b_hedgerowref01_Text, hr, txtR]
    · subst h2
      simp [F_hedgerowref01_Text, b_hedgerowref01_Text, hr, txtR]
    · subst h2
      simp [F_hedgerowref01_Text, b_hedgerowref01_Text, hr, txtR]
    · simp [F_hedgerowref01_Text, b_hedgerowref01_Text, hr, txtR, ref_Digits n h1 h2]
    · simp [F_hedgerowref01_Text, b_hedgerowref01_Text, hr, txtR]
      rw [wp_seqK, wp_blockK]
      refine rtext_loop s hs (.int .i64 3) (.int .i64 n) 0 s.data.toList 0 (by simp) _ _ _ _ (⟨#[39]⟩ : ByteArray) ?_ ?_ ?_ ?_ ?_
      · simp
      · simp
      · simp
      · have := bs_size s
        show (1 : Nat) + _ ≤ _
        omega
      · intro l' acc' e1 e2
        have hz : acc'.size ≤ 3000 := by
          rw [bs_size, e2]
          have := quo_len s.data.toList
          have := bs_size s
          simp; omega
        have a2 : gStr .add acc' (⟨#[39]⟩ : ByteArray) = _ := add_ok (by show _ + (1 : Nat) ≤ _; omega)
        simp [e1, a2]
        apply ba_ext
        rw [ByteArray.data_append, Array.toList_append, e2]
        simp
    · have a1 : gStr .add (⟨#[40]⟩ : ByteArray) s = _ := add_ok (by show (1 : Nat) + _ ≤ _; omega)
      have a2 : gStr .add ((⟨#[40]⟩ : ByteArray) ++ s) (⟨#[41]⟩ : ByteArray) = _ := add_ok (by rw [bs_size]; show _ + (1 : Nat) ≤ _; simp; omega)
      simp [F_hedgerowref01_Text, b_hedgerowref01_Text, hr, txtR, a1, a2]
      apply ba_ext; simp
    · have a1 : gStr .add (⟨#[91]⟩ : ByteArray) s = _ := add_ok (by show (1 : Nat) + _ ≤ _; omega)
      have a2 : gStr .add ((⟨#[91]⟩ : ByteArray) ++ s) (⟨#[93]⟩ : ByteArray) = _ := add_ok (by rw [bs_size]; show _ + (1 : Nat) ≤ _; simp; omega)
      simp [F_hedgerowref01_Text, b_hedgerowref01_Text, hr, txtR, a1, a2]
      apply ba_ext; simp

theorem list_iff (s : ByteArray) (l : List UInt8) : s.data.toList = l ↔ s = ⟨l.toArray⟩ := by
  constructor
  · intro h; exact ba_ext (by simpa using h)
  · rintro rfl; simp

/-- A value of three parts. -/
def val3 (v : Int × Int × List UInt8) : GV := .agg [.int .i64 v.1, .int .i64 v.2.1, .str ⟨v.2.2.toArray⟩]

theorem atoi_lib (s : ByteArray) (hs : s.size ≤ 1000) (H : GH) : ∃ e, ecall T f_strconv_Atoi [.str s] H = some (.tup [.int .i64 (atoiN s.data.toList), e], H) ∧ (∀ t, unbox t e = e) := by
  rw [ecall_lib T_strconv_Atoi (by decide) (by simp [F_strconv_Atoi])]
  have hz : s.size ≤ 281474976710656 := by omega
  simp only [libH, libP, lAtoi, F_strconv_Atoi, if_pos hz]
  unfold atoiN
  rcases Lib.atoiAll s.data.toList with v | _ | _
  · exact ⟨.niliface, rfl, fun _ => rfl⟩
  · exact ⟨_, rfl, fun _ => rfl⟩
  · exact ⟨_, rfl, fun _ => rfl⟩

theorem mid_slice (s : ByteArray) (h : 2 ≤ s.size) (hs : s.size ≤ 1000) : gBounds s.size true true false [.int .i64 1, .int .i64 ((s.size : Int) - 1)] = some (1, s.size - 1, none) ∧ s.extract 1 (s.size - 1) = ⟨(mid s.data.toList).toArray⟩ := by
  have e1 : gBound s.size (.int .i64 ((s.size : Int) - 1)) = some (s.size - 1) := by simp only [gBound]; rw [if_pos (by omega)]; congr 1; omega
  have e2 : gBound (s.size - 1) (.int .i64 1) = some 1 := by simp only [gBound]; rw [if_pos (by omega)]; rfl
  refine ⟨by simp [gBounds, e1, e2], ?_⟩
  apply ba_ext
  rw [Lib.extract_data]
  have := bs_size s
  simp only [mid]
  rw [← this, show s.size - 1 - 1 = s.size - 2 by omega]

theorem value_guess (s : ByteArray) (hs : s.size ≤ 1000) (H : GH) : ecall T f_value_guess [.str s] H = some (val3 (guessV s.data.toList), H) := by
  apply optW.eq
  rw [ecall_0 T_value_guess rfl (by simp [F_value_guess]), wp_fin1]
  have hsz := bs_size s
  unfold guessV
  simp only [F_value_guess, b_value_guess]
  by_cases h1 : s = ⟨#[116, 114, 117, 101]⟩
  · have hl := (list_iff s [116, 114, 117, 101]).2 h1
    rw [if_pos hl]
    simp [h1, gFill, setPart, val3]
  · have hl1 : ¬ s.data.toList = [116, 114, 117, 101] := fun h => h1 ((list_iff _ _).1 h)
    rw [if_neg hl1]
    by_cases h2 : s = ⟨#[102, 97, 108, 115, 101]⟩
    · have hl := (list_iff s [102, 97, 108, 115, 101]).2 h2
      rw [if_pos hl]
      simp [h2, gFill, setPart, val3]
    · have hl2 : ¬ s.data.toList = [102, 97, 108, 115, 101] := fun h => h2 ((list_iff _ _).1 h)
      rw [if_neg hl2]
      by_cases h3 : s = ⟨#[110, 117, 108, 108]⟩
      · have hl := (list_iff s [110, 117, 108, 108]).2 h3
        rw [if_pos (.inl hl)]
        simp [h3, gFill, setPart, val3]
      · have hl3 : ¬ s.data.toList = [110, 117, 108, 108] := fun h => h3 ((list_iff _ _).1 h)
        by_cases h4 : (s.size : Int) < 1
        · have hl4 : s.data.toList = [] := List.eq_nil_of_length_eq_zero (by omega)
          rw [if_pos (.inr hl4)]
          have h4' : s.size = 0 := by omega
          simp [h1, h2, h3, h4, h4', gFill, setPart, val3]
        · have hl4 : ¬ s.data.toList = [] := fun h => by
            have h0 : s.size = 0 := by rw [hsz, h]; rfl
            omega
          rw [if_neg (by rintro (h | h); exact hl3 h; exact hl4 h)]
          have h4' : ¬ s.size = 0 := by omega
          obtain ⟨c, r, hcr⟩ : ∃ c r, s.data.toList = c :: r := by
            cases hh : s.data.toList with
            | nil => exact absurd hh hl4
            | cons c r => exact ⟨c, r, rfl⟩
          have hix : gIx s.size (.int .i64 0) = some 0 := ix_ok (i := 0) (by omega)
          have hg0 : s.data[0]? = some c := by
            have : s.data.toList[0]? = some c := by rw [hcr]; rfl
            simpa using this
          have hgd : ∀ h : 0 < s.data.size, s.data[0]'h = c := fun h => by rw [Array.getElem?_eq_getElem h] at hg0; exact Option.some.inj hg0
          have hlt0 : 0 < s.size := by omega
          obtain ⟨e, hat, hub⟩ := atoi_lib s hs H
          by_cases h5 : (1 : Int) < s.size
          · have h5' : 1 < s.size := by omega
            have h5l : 1 < s.data.toList.length := by omega
            have hhd : s.data.toList.head? = some c := by rw [hcr]; rfl
            have hw : IntKind.i64.wrap ((s.size : Int) - 1) = (s.size : Int) - 1 := wrap_i64' (by omega) (by omega)
            obtain ⟨hgb, hmid⟩ := mid_slice s (by omega) hs
            simp only [hhd, h5l, true_and, Option.some.injEq]
            by_cases c1 : c = 39
            · rw [if_pos c1]
              have n1 : (39 : UInt8).toNat = 39 := rfl
              subst c1
              simp [h1, h2, h3, h4, h4', h5, h5', hix, str_get, hg0, hgd, hlt0, n1, value_unquoted s hs, gFill, setPart, val3]
            · rw [if_neg c1]
              have n1 : ¬ c.toNat = 39 := fun h => c1 (UInt8.toNat_inj.1 h)
              have m1 : ¬ (c.toNat : Int) = 39 := by omega
              by_cases c2 : c = 40
              · rw [if_pos c2]
                subst c2
                simp [h1, h2, h3, h4, h4', h5, h5', hix, str_get, hg0, hgd, hlt0, hw, hgb, hmid, gFill, setPart, val3]
              · rw [if_neg c2]
                have n2 : ¬ c.toNat = 40 := fun h => c2 (UInt8.toNat_inj.1 h)
                have m2 : ¬ (c.toNat : Int) = 40 := by omega
                by_cases c3 : c = 91
                · rw [if_pos c3]
                  subst c3
                  simp [h1, h2, h3, h4, h4', h5, h5', hix, str_get, hg0, hgd, hlt0, hw, hgb, hmid, gFill, setPart, val3]
                · rw [if_neg c3]
                  have n3 : ¬ c.toNat = 91 := fun h => c3 (UInt8.toNat_inj.1 h)
                  have m3 : ¬ (c.toNat : Int) = 91 := by omega
                  simp [h1, h2, h3, h4, h4', h5, h5', hix, str_get, hg0, hgd, hlt0, n1, m1, n2, m2, n3, m3, hat, hub, gFill, setPart, val3]
          · have h5' : ¬ 1 < s.size := by omega
            have h5l : ¬ 1 < s.data.toList.length := by omega
            simp only [h5l, false_and, if_false]
            simp [h1, h2, h3, h4, h4', h5, h5', hat, hub, gFill, setPart, val3]

theorem guess_small (l : List UInt8) (hl : l.length ≤ 1000) : (guessV l).2.2.length ≤ 1000 ∧ -9223372036854775808 ≤ (guessV l).2.1 ∧ (guessV l).2.1 ≤ 9223372036854775807 := by
  have hu : ∀ (n : Nat) (l : List UInt8), l.length ≤ n → (unq2 l).length ≤ l.length := by
    intro n
    induction n with
    | zero => intro l h; have : l = [] := List.eq_nil_of_length_eq_zero (by omega); subst this; simp [unq2]
    | succ n ih =>
      intro l h
      match l with
      | [] => simp [unq2]
      | [_] => simp [unq2]
      | c :: d :: r =>
        unfold unq2
        simp only [List.length_cons] at h
        split
        · have := ih r (by omega); simp; omega
        · have := ih (d :: r) (by simp; omega); simp at this ⊢; omega
  have hm : (mid l).length ≤ l.length := by simp [mid]; omega
  have ha : -9223372036854775808 ≤ atoiN l ∧ atoiN l ≤ 9223372036854775807 := by
    unfold atoiN
    cases h : Lib.atoiAll l with
    | ok v =>
      show -9223372036854775808 ≤ v ∧ v ≤ _
      unfold Lib.atoiAll at h
      split at h
      · cases h
      · simp only at h
        split at h
        · cases h
        · cases h
        · rename_i u _
          split at h
          · cases h
          · split at h
            · cases h
            · injection h with h
              split at h <;> omega
    | _ => first
      | (show -9223372036854775808 ≤ (0 : Int) ∧ (0 : Int) ≤ _; omega)
      | (show -9223372036854775808 ≤ Lib.atoiSat l ∧ Lib.atoiSat l ≤ _; unfold Lib.atoiSat; split <;> omega)
  unfold guessV
  split
  · simp
  · split
    · simp
    · split
      · simp
      · split
        · refine ⟨?_, by simp, by simp⟩
          have := hu _ (l.drop 1) (Nat.le_refl _)
          simp at this ⊢; omega
        · split
          · exact ⟨by simp only; omega, by simp, by simp⟩
          · split
            · exact ⟨by simp only; omega, by simp, by simp⟩
            · exact ⟨by simp, ha.1, ha.2⟩

/-- What a reading tells. -/
def opt3 : Option (Int × Int × List UInt8) → GV
  | some v => .tup [val3 v, .bool true]
  | none => .tup [val3 (0, 0, []), .bool false]

theorem value_Parse (s : ByteArray) (hs : s.size ≤ 1000) (H : GH) : ecall T f_value_Parse [.str s] H = some (opt3 (parseV s.data.toList), H) := by
  apply optW.eq
  rw [ecall_0 T_value_Parse rfl (by simp [F_value_Parse]), wp_fin1]
  have hsz := bs_size s
  have hg := value_guess s (by omega) H
  obtain ⟨g1, g2, g3⟩ := guess_small s.data.toList (by omega)
  obtain ⟨⟨k, n, t⟩, hkn⟩ : ∃ v, guessV s.data.toList = v := ⟨_, rfl⟩
  rw [hkn] at hg g1 g2 g3
  simp only at g1 g2 g3
  have hst := value_String k n ⟨t.toArray⟩ (by rw [ba_size]; omega) g2 g3 H
  have hdt : (⟨t.toArray⟩ : ByteArray).data.toList = t := by simp
  rw [hdt] at hst
  simp only [val3] at hg
  unfold parseV
  rw [hkn]
  simp only [F_value_Parse, b_value_Parse]
  by_cases h0 : s = ⟨#[]⟩
  · have hl : s.data.toList = [] := (empty_iff s).2 h0
    rw [if_neg (by rintro ⟨h, _⟩; exact h hl)]
    subst h0
    simp [hg, gFill, setPart, opt3, val3]
  · have hl : ¬ s.data.toList = [] := fun h => h0 ((empty_iff s).1 h)
    by_cases ht : txtV k n t = s.data.toList
    · have ht' : (⟨(txtV k n t).toArray⟩ : ByteArray) = s := ((list_iff s _).1 ht.symm).symm
      rw [if_pos ⟨hl, ht⟩]
      simp [h0, hg, hst, ht', setPart, opt3, val3]
    · have ht' : ¬ (⟨(txtV k n t).toArray⟩ : ByteArray) = s := fun h => ht ((list_iff s _).2 h.symm).symm
      rw [if_neg (by rintro ⟨_, h⟩; exact ht h)]
      simp [h0, hg, hst, ht', gFill, setPart, opt3, val3]

end Go.Proofs.YtalhcaadpgadkaaGreatDoor
