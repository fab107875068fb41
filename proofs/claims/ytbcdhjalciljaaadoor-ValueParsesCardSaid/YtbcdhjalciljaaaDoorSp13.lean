/- Own work, over the shadow machine: VSpec13. -/
import Derived.Test.YtbcdhjalciljaaaDoorSp12
set_option linter.all false
namespace Go.Proofs.YtbcdhjalciljaaaDoor
open Go.Sh
set_option maxRecDepth 100000

theorem slice1 {s : ByteArray} {i : Nat} {c : UInt8} {cs : List UInt8} (hd : s.data.toList.drop i = c :: cs) : gBounds s.size true true false [.int .i64 (i : Int), .int .i64 ((i : Int) + 1)] = some (i, i + 1, none) ∧ (s.extract i (i + 1)).data.toList = [c] ∧ (s.extract i (i + 1)).size = 1 := by
  obtain ⟨hg, hi, _⟩ := drop_some hd
  have hsz := bs_size s
  have e1 : gBound s.size (.int .i64 ((i : Int) + 1)) = some (i + 1) := by simp only [gBound]; rw [if_pos (by omega)]; congr 1
  have e2 : gBound (i + 1) (.int .i64 (i : Int)) = some i := by simp only [gBound]; rw [if_pos (by omega)]; simp
  have hxs : (s.extract i (i + 1)).data.toList = [c] := by rw [Lib.extract_data, show i + 1 - i = 1 by omega, hd]; rfl
  exact ⟨by simp [gBounds, e1, e2], hxs, by rw [bs_size, hxs]; rfl⟩

theorem rtext_loop (s : ByteArray) (hs : s.size ≤ 1000) (kv nv : GV) (g1 : Nat) (cs : List UInt8) : ∀ (i : Nat) (_ : s.data.toList.drop i = cs) (l : List GV) (g : Nat) (H : GH) (K : GExit × St → Prop) (acc : ByteArray)
    (_ : lget l 1 = .lbox g1 [kv, nv, .str s]) (_ : lget l 3 = .str acc) (_ : lget l 4 = .int .i64 i) (_ : acc.size + 2 * cs.length ≤ 10000)
    (_ : ∀ (l' : List GV) (acc' : ByteArray), lget l' 3 = .str acc' → acc'.data.toList = acc.data.toList ++ quoL cs → K (.exit 1, ⟨⟨l', g⟩, H⟩)),
    optW (erun T (.loop L0_hedgerowref01_Text) ⟨⟨l, g⟩, H⟩) K := by
  induction cs with
  | nil =>
    intro i hd l g H K acc h1 h3 h4 hl he
    have hlen := drop_none hd
    have hge : ¬ ((i : Int) < s.size) := by
      have := bs_size s
      omega
    rw [run_loop]
    simp [L0_hedgerowref01_Text, h1, h4, hge]
    exact he _ acc (by simp [h3]) (by simp [quoL])
  | cons c cs ih =>
    intro i hd l g H K acc h1 h3 h4 hl he
    obtain ⟨hg, hi, hd'⟩ := drop_some hd
    obtain ⟨hgb, hxs, hxz⟩ := slice1 hd
    have hsz := bs_size s
    have hlt : (i : Int) < s.size := by omega
    have hix := ix_ok hlt
    have hw : IntKind.i64.wrap ((i : Int) + 1) = (i : Int) + 1 := wrap_i64' (by omega) (by omega)
    have hg' : s.data[i]? = some c := by simpa using hg
    simp only [List.length_cons] at hl
    rw [run_loop, wp_seqK]
    by_cases h39 : c = 39 ∨ c = 92
    · have a1 : gStr .add acc (⟨#[92]⟩ : ByteArray) = _ := add_ok (by show _ + (1 : Nat) ≤ _; omega)
      have z1 : (acc ++ (⟨#[92]⟩ : ByteArray)).size = acc.size + 1 := by
        rw [bs_size, bs_size acc]; simp
      have a2 : gStr .add (acc ++ (⟨#[92]⟩ : ByteArray)) (s.extract i (i + 1)) = _ := add_ok (by rw [hxz, z1]; omega)
      have z2 : (acc ++ (⟨#[92]⟩ : ByteArray) ++ s.extract i (i + 1)).size = acc.size + 2 := by
        rw [ByteArray.size_append, z1, hxz]
      rcases h39 with rfl | rfl
      · simp [L0_hedgerowref01_Text, h1, h3, h4, hlt, hix, str_get, hg', hw, gSetAll, tb1, a1, a2, hgb]
        refine ih (i + 1) hd' _ g H K (acc ++ (⟨#[92]⟩ : ByteArray) ++ s.extract i (i + 1)) ?_ ?_ ?_ (by rw [z2]; omega) ?_
        · simp [h1]
        · simp
        · simp
        · intro l' acc' e1 e2
          refine he l' acc' e1 ?_
          rw [e2, ByteArray.data_append, Array.toList_append, hxs]
          simp [quoL]
      · simp [L0_hedgerowref01_Text, h1, h3, h4, hlt, hix, str_get, hg', hw, gSetAll, tb1, a1, a2, hgb]
        refine ih (i + 1) hd' _ g H K (acc ++ (⟨#[92]⟩ : ByteArray) ++ s.extract i (i + 1)) ?_ ?_ ?_ (by rw [z2]; omega) ?_
        · simp [h1]
        · simp
        · simp
        · intro l' acc' e1 e2
          refine he l' acc' e1 ?_
          rw [e2, ByteArray.data_append, Array.toList_append, hxs]
          simp [quoL]
    · have hn1 : ¬ c = 39 := fun h => h39 (.inl h)
      have hn2 : ¬ c = 92 := fun h => h39 (.inr h)
      have n1 : ¬ c.toNat = 39 := fun h => hn1 (UInt8.toNat_inj.1 h)
      have n2 : ¬ c.toNat = 92 := fun h => hn2 (UInt8.toNat_inj.1 h)
      have b1 : ¬ (c.toNat : Int) = 39 := by omega
      have b2 : ¬ (c.toNat : Int) = 92 := by omega
      have a2 : gStr .add acc (s.extract i (i + 1)) = _ := add_ok (by rw [hxz]; omega)
      have z2 : (acc ++ s.extract i (i + 1)).size = acc.size + 1 := by rw [ByteArray.size_append, hxz]
      simp [L0_hedgerowref01_Text, h1, h3, h4, hlt, hix, str_get, hg', hw, a2, hgb, n1, n2, b1, b2]
      refine ih (i + 1) hd' _ g H K (acc ++ s.extract i (i + 1)) ?_ ?_ ?_ (by rw [z2]; omega) ?_
      · simp [h1]
      · simp
      · simp
      · intro l' acc' e1 e2
        refine he l' acc' e1 ?_
        rw [e2, ByteArray.data_append, Array.toList_append, hxs]
        simp [quoL, hn1, hn2]

theorem ref_Text (k n : Int) (s : ByteArray) (hs : s.size ≤ 1000) (H : GH) :
    ecall T f_hedgerowref01_Text [.agg [.int .i64 k, .int .i64 n, .str s]] H = some (.str ⟨(txtV k n s.data.toList).toArray⟩, H) := by
  apply optW.eq
  rw [ecall_0 T_hedgerowref01_Text rfl (by simp [F_hedgerowref01_Text]), wp_fin1]
  have hr := ref_Right k n s (by omega) H
  unfold txtV
  cases hrv : rightV k n s.data.toList <;> rw [hrv] at hr
  · simp [F_hedgerowref01_Text, b_hedgerowref01_Text, hr]
  · rcases right_cases hrv with ⟨rfl, h2, h3⟩ | ⟨rfl, h2, h3⟩ | ⟨rfl, h2, h3⟩ | ⟨rfl, h1, h2, h3⟩ | ⟨rfl, h2⟩ | ⟨rfl, h2⟩ | ⟨rfl, h2⟩
    · simp [F_hedgerowref01_Text, b_hedgerowref01_Text, hr, txtR]
    · subst h2
      simp [F_hedgerowref01_Text, b_hedgerowref01_Text, hr, txtR]
    · subst h2
      simp [F_hedgerowref01_Text, b_hedgerowref01_Text, hr, txtR]
    · simp [F_hedgerowref01_Text, b_hedgerowref01_Text, hr, txtR, ref_Digits n h1 h2]
    · simp [F_hedgerowref01_Text, b_hedgerowref01_Text, hr, txtR]
      rw [wp_seqK, wp_blockK]
      refine rtext_loop s hs (.int .i64 3) (.int .i64 n) 0 s.data.toList 0 (by simp) _ _ _ _ (⟨#[39]⟩ : ByteArray) ?_ ?_ ?_ ?_ ?_
      · simp
      · simp
      · simp
      · have := bs_size s
        show (1 : Nat) + _ ≤ _
        omega
      · intro l' acc' e1 e2
        have hz : acc'.size ≤ 3000 := by
          rw [bs_size, e2]
          have := quo_len s.data.toList
          have := bs_size s
          simp; omega
        have a2 : gStr .add acc' (⟨#[39]⟩ : ByteArray) = _ := add_ok (by show _ + (1 : Nat) ≤ _; omega)
        simp [e1, a2]
        apply ba_ext
        rw [ByteArray.data_append, Array.toList_append, e2]
        simp
    · have a1 : gStr .add (⟨#[40]⟩ : ByteArray) s = _ := add_ok (by show (1 : Nat) + _ ≤ _; omega)
      have a2 : gStr .add ((⟨#[40]⟩ : ByteArray) ++ s) (⟨#[41]⟩ : ByteArray) = _ := add_ok (by rw [bs_size]; show _ + (1 : Nat) ≤ _; simp; omega)
      simp [F_hedgerowref01_Text, b_hedgerowref01_Text, hr, txtR, a1, a2]
      apply ba_ext; simp
    · have a1 : gStr .add (⟨#[91]⟩ : ByteArray) s = _ := add_ok (by show (1 : Nat) + _ ≤ _; omega)
      have a2 : gStr .add ((⟨#[91]⟩ : ByteArray) ++ s) (⟨#[93]⟩ : ByteArray) = _ := add_ok (by rw [bs_size]; show _ + (1 : Nat) ≤ _; simp; omega)
      simp [F_hedgerowref01_Text, b_hedgerowref01_Text, hr, txtR, a1, a2]
      apply ba_ext; simp
end Go.Proofs.YtbcdhjalciljaaaDoor
