/- Own work, over the shadow machine: SVal3. -/
import Derived.Test.YtalhcaadpgadkaaGreatDoorVa1
set_option linter.all false
namespace Go.Proofs.YtalhcaadpgadkaaGreatDoor
open Go.Sh
set_option maxRecDepth 100000
def u8s (bs : List UInt8) : List GV := bs.map fun b => .int .u8 b.toNat

/-- A builder's row. -/
def RowOk (toks : List Nat) (bt : Nat) (sl : GV) (bs : List UInt8) : Prop :=
  (bs = [] ∧ sl = .nilsl) ∨ ∃ t pos, bs ≠ [] ∧ sl = .sl 1 (u8s bs) (.tok t pos (some 5)) ∧ toks[t]? = some pos ∧ bt ≤ t

/-- A builder that has these bytes. -/
structure Bld (H : GH) (id : Nat) (bs : List UInt8) : Prop where
  bo : H.bo ≤ id
  bt : H.bt ≤ H.toks.length
  obj : ∃ p sl, H.objs[id]? = some (.cells 48 [p, sl]) ∧ (p = .nilptr ∨ p = .ptr id 0) ∧ RowOk H.toks H.bt sl bs

theorem copy_spec {H : GH} {id : Nat} {p sl : GV} (hb : H.bo ≤ id) (ho : H.objs[id]? = some (.cells 48 [p, sl])) (hp : p = .nilptr ∨ p = .ptr id 0) :
    ∃ objs, ecall T f_strings_Builder_copyCheck [.ptr id 0] H = some (.tup [], { H with objs := objs }) ∧ objs[id]? = some (.cells 48 [.ptr id 0, sl]) := by
  rw [ecall_lib T_strings_Builder_copyCheck (by decide) (by simp [F_strings_Builder_copyCheck])]
  rcases hp with rfl | rfl
  · refine ⟨H.objs.set id (.cells 48 [.ptr id 0, sl]), ?_, obj_set ho⟩
    simp [libH, libW, lUsed, F_strings_Builder_copyCheck, ho, hb]
  · refine ⟨H.objs, ?_, ho⟩
    simp [libH, libW, lUsed, F_strings_Builder_copyCheck, ho]

theorem row_app {H : GH} {sl : GV} {bs : List UInt8} (hr : RowOk H.toks H.bt sl bs) (hbt : H.bt ≤ H.toks.length) (hl : bs.length ≤ 100000) (c : UInt8) :
    ∃ s' toks', gAppend H 5 1 1 sl (.sl 1 [.int .u8 c.toNat] .exact) = some (s', { H with toks := toks' }) ∧ RowOk toks' H.bt s' (bs ++ [c]) ∧ H.bt ≤ toks'.length ∧ s'.ok = true ∧ s'.one = true ∧ s'.cells = [s'] ∧ (∀ t, unbox t sl = sl) ∧ (∀ t, unbox t s' = s') := by
  have h1 : (1 : Nat) ≤ room ∧ (1 : Nat) ≤ maxLen := ⟨by simp [room], by simp [maxLen]⟩
  have h2 : bs.length + 1 ≤ room ∧ bs.length + 1 ≤ maxLen := ⟨by simp [room]; omega, by simp [maxLen]; omega⟩
  rcases hr with ⟨rfl, rfl⟩ | ⟨t, pos, hne, rfl, ht, hb⟩
  · refine ⟨.sl 1 [.int .u8 c.toNat] (.tok H.toks.length 1 (some 5)), H.toks ++ [1], ?_, .inr ⟨H.toks.length, 1, by simp, rfl, by simp, hbt⟩, by simp; omega, rfl, rfl, rfl, fun _ => rfl, fun _ => rfl⟩
    simp [gAppend, gNews, h1]
  · have hlt : t < H.toks.length := (List.getElem?_eq_some_iff.1 ht).1
    refine ⟨.sl 1 (u8s bs ++ [.int .u8 c.toNat]) (.tok t (pos + 1) (some 5)), H.toks.set t (pos + 1), ?_, .inr ⟨t, pos + 1, by simp, by simp [u8s], by simp [hlt], hb⟩, by simpa using hbt, rfl, rfl, rfl, fun _ => rfl, fun _ => rfl⟩
    simp [gAppend, gNews, ht, hb, u8s, h2]

theorem write_byte {H : GH} {id : Nat} {bs : List UInt8} (hB : Bld H id bs) (hl : bs.length ≤ 100000) (c : UInt8) :
    ∃ H', ecall T f_strings_Builder_WriteByte [.ptr id 0, .int .u8 c.toNat] H = some (.niliface, H') ∧ Bld H' id (bs ++ [c]) := by
  obtain ⟨hbo, hbt, p, sl, ho, hp, hrow⟩ := hB
  obtain ⟨objs, hcc, ho'⟩ := copy_spec hbo ho hp
  have hbt' : ({ H with objs := objs } : GH).bt ≤ ({ H with objs := objs } : GH).toks.length := hbt
  obtain ⟨s', toks', happ, hrow', hbt2, hok, hone, hcells, hu1, hu2⟩ := row_app (H := { H with objs := objs }) hrow hbt' hl c
  refine ⟨{ H with objs := objs.set id (.cells 48 [.ptr id 0, s']), toks := toks' }, ?_, hbo, hbt2, .ptr id 0, s', obj_set (H := { H with objs := objs }) ho', .inr rfl, hrow'⟩
  apply optW.eq
  rw [ecall_0 T_strings_Builder_WriteByte rfl (by simp [F_strings_Builder_WriteByte]), wp_fin1]
  simp only [F_strings_Builder_WriteByte, b_strings_Builder_WriteByte]
  simp [hcc, ho', gSetAll, happ, hok, hone, hcells, hbo, hu1, hu2, setPart]

theorem built {H : GH} {id : Nat} {bs : List UInt8} (hB : Bld H id bs) : ecall T f_strings_Builder_String [.ptr id 0] H = some (.str ⟨bs.toArray⟩, H) := by
  obtain ⟨hbo, hbt, p, sl, ho, hp, hrow⟩ := hB
  rw [ecall_lib T_strings_Builder_String (by decide) (by simp [F_strings_Builder_String])]
  rcases hrow with ⟨rfl, rfl⟩ | ⟨t, pos, hne, rfl, ht, hb⟩
  · simp [libH, libP, lBuilt, F_strings_Builder_String, ho]
  · have hr : ∀ l : List UInt8, byteRow (u8s l) = some l := by
      intro l
      induction l with
      | nil => rfl
      | cons b l ih =>
        have := b.toNat_lt
        have e : u8s (b :: l) = .int .u8 b.toNat :: u8s l := rfl
        rw [e, byteRow, if_pos (by omega), ih]
        simp
    cases bs with
    | nil => exact absurd rfl hne
    | cons b l =>
      have := hr (b :: l)
      have e : u8s (b :: l) = .int .u8 b.toNat :: u8s l := rfl
      rw [e] at this
      simp [libH, libP, lBuilt, F_strings_Builder_String, ho, e, ht, hb, this]

theorem quo_append (a b : List UInt8) : quoL (a ++ b) = quoL a ++ quoL b := by
  induction a with
  | nil => rfl
  | cons c a ih =>
    simp only [List.cons_append, quoL]
    split <;> simp [ih]

theorem quo_len (l : List UInt8) : (quoL l).length ≤ 2 * l.length := by
  induction l with
  | nil => simp [quoL]
  | cons c l ih => unfold quoL; split <;> simp <;> omega

theorem quoted_loop (s : ByteArray) (hs : s.size ≤ 1000) (cs : List UInt8) : ∀ (i : Nat) (_ : s.data.toList.drop i = cs) (l : List GV) (g : Nat) (H : GH) (K : GExit × St → Prop) (id : Nat) (bs : List UInt8)
    (_ : lget l 8 = .sl 1 (bytesGV s) .imm) (_ : lget l 9 = .int .i64 s.size) (_ : lget l 10 = .int .i64 i) (_ : lget l 3 = .ptr id 0)
    (_ : Bld H id bs) (_ : bs.length + 2 * cs.length ≤ 10000)
    (_ : ∀ (l' : List GV) (H' : GH), lget l' 3 = .ptr id 0 → Bld H' id (bs ++ quoL cs) → K (.exit 0, ⟨⟨l', g⟩, H'⟩)),
    optW (erun T (.loop L0_value_quoted) ⟨⟨l, g⟩, H⟩) K := by
  induction cs with
  | nil =>
    intro i hd l g H K id bs h8 h9 h10 h3 hB hl he
    have hlen := drop_none hd
    have hge : ¬ ((i : Int) < s.size) := by
      have : s.size = s.data.toList.length := by simp
      omega
    rw [run_loop]
    simp [L0_value_quoted, h9, h10, hge]
    exact he _ H (by simp [h3]) (by simpa [quoL] using hB)
  | cons c cs ih =>
    intro i hd l g H K id bs h8 h9 h10 h3 hB hl he
    obtain ⟨hg, hi, hd'⟩ := drop_some hd
    have hsz : s.size = s.data.toList.length := by simp
    have hlt : (i : Int) < s.size := by omega
    have hbl : (bytesGV s).length = s.size := bytesGV_len s
    have hix : gIx (bytesGV s).length (.int .i64 i) = some i := by rw [hbl]; exact ix_ok hlt
    have hw : IntKind.i64.wrap ((i : Int) + 1) = (i : Int) + 1 := wrap_i64' (by omega) (by omega)
    have hge : (bytesGV s)[i]? = some (.int .u8 c.toNat) := by simp only [bytesGV, List.getElem?_map, hg]; rfl
    rw [run_loop, wp_seqK]
    simp only [List.length_cons] at hl
    by_cases h39 : c = 39 ∨ c = 92
    · obtain ⟨H1, hw1, hB1⟩ := write_byte hB (by omega) 92
      obtain ⟨H2, hw2, hB2⟩ := write_byte hB1 (by simp; omega) c
      have e92 : ((92 : UInt8).toNat : Int) = 92 := rfl
      rw [e92] at hw1
      have hq : bs ++ quoL (c :: cs) = (bs ++ [92] ++ [c]) ++ quoL cs := by simp [quoL, h39]
      rcases h39 with rfl | rfl
      · have e39 : ((39 : UInt8).toNat : Int) = 39 := rfl
        rw [e39] at hw2 hge
        simp [L0_value_quoted, h8, h9, h10, h3, hlt, hix, hge, hw1, hw2, hw]
        refine ih (i + 1) hd' _ g H2 K id _ ?_ ?_ ?_ ?_ hB2 (by simp; omega) ?_
        · simp [h8]
        · simp [h9]
        · simp
        · simp [h3]
        · intro l' H' h1 h2; exact he l' H' h1 (by rw [hq]; exact h2)
      · rw [e92] at hw2 hge
        simp [L0_value_quoted, h8, h9, h10, h3, hlt, hix, hge, hw1, hw2, hw]
        refine ih (i + 1) hd' _ g H2 K id _ ?_ ?_ ?_ ?_ hB2 (by simp; omega) ?_
        · simp [h8]
        · simp [h9]
        · simp
        · simp [h3]
        · intro l' H' h1 h2; exact he l' H' h1 (by rw [hq]; exact h2)
    · have hn1 : ¬ c = 39 := fun h => h39 (.inl h)
      have hn2 : ¬ c = 92 := fun h => h39 (.inr h)
      have a1 : ¬ c.toNat = 39 := fun h => hn1 (UInt8.toNat_inj.1 h)
      have a2 : ¬ c.toNat = 92 := fun h => hn2 (UInt8.toNat_inj.1 h)
      have b1 : ¬ (c.toNat : Int) = 39 := by omega
      have b2 : ¬ (c.toNat : Int) = 92 := by omega
      obtain ⟨H1, hw1, hB1⟩ := write_byte hB (by omega) c
      have hq : bs ++ quoL (c :: cs) = (bs ++ [c]) ++ quoL cs := by simp [quoL, hn1, hn2]
      simp [L0_value_quoted, h8, h9, h10, h3, hlt, hix, hge, hw1, hw, a1, a2, b1, b2]
      refine ih (i + 1) hd' _ g H1 K id _ ?_ ?_ ?_ ?_ hB1 (by simp; omega) ?_
      · simp [h8]
      · simp [h9]
      · simp
      · simp [h3]
      · intro l' H' h1 h2; exact he l' H' h1 (by rw [hq]; exact h2)

theorem new_bld (H : GH) : Bld (H.over.newObj (.cells 48 [.nilptr, .nilsl])) H.objs.length [] := by
  refine ⟨Nat.le_refl _, Nat.le_refl _, .nilptr, .nilsl, ?_, .inl rfl, .inl ⟨rfl, rfl⟩⟩
  simp [GH.newObj, GH.over]

theorem clean_s (a b : Nat) (x : ByteArray) : clean a b 100 (.str x) = some (.str x) := rfl

theorem value_quoted (s : ByteArray) (hs : s.size ≤ 1000) (H : GH) : ecall T f_value_quoted [.str s] H = some (.str ⟨(39 :: (quoL s.data.toList ++ [39])).toArray⟩, H) := by
  apply optW.eq
  rw [ecall_1 T_value_quoted rfl (by simp [F_value_quoted]), wp_fin1]
  have hsz : s.size = s.data.toList.length := by simp
  have hml : s.size ≤ maxLen := by simp [maxLen]; omega
  obtain ⟨H1, hw1, hB1⟩ := write_byte (new_bld H) (by simp) 39
  have e39 : ((39 : UInt8).toNat : Int) = 39 := rfl
  rw [e39] at hw1
  have hbl : (bytesGV s).length = s.size := bytesGV_len s
  simp only [F_value_quoted, b_value_quoted]
  simp [hw1, hml, hbl]
  rw [wp_seqK, wp_blockK]
  refine quoted_loop s hs s.data.toList 0 (by simp) _ _ _ _ H.objs.length [39] ?_ ?_ ?_ ?_ (by simpa using hB1) (by simp; omega) ?_
  · simp
  · simp
  · simp
  · simp
  · intro l' H' h1 h2
    obtain ⟨H2, hw2, hB2⟩ := write_byte h2 (by have := quo_len s.data.toList; simp; omega) 39
    rw [e39] at hw2
    have hbu := built hB2
    simp [h1, hw2, hbu, clean_s]

theorem unquoted_loop (s : ByteArray) (hs : s.size ≤ 1000) (n : Nat) : ∀ (cs : List UInt8) (_ : cs.length ≤ n) (i : Nat) (_ : s.data.toList.drop i = cs) (l : List GV) (g : Nat) (H : GH) (K : GExit × St → Prop) (id : Nat) (bs : List UInt8)
    (_ : lget l 0 = .str s) (_ : lget l 4 = .int .i64 i) (_ : lget l 3 = .ptr id 0)
    (_ : Bld H id bs) (_ : bs.length + cs.length ≤ 10000)
    (_ : ∀ (l' : List GV) (H' : GH), lget l' 3 = .ptr id 0 → Bld H' id (bs ++ unq2 cs) → K (.exit 0, ⟨⟨l', g⟩, H'⟩)),
    optW (erun T (.loop L0_value_unquoted) ⟨⟨l, g⟩, H⟩) K := by
  have hsz : s.size = s.data.toList.length := by simp
  have hsub : 1 ≤ s.size → IntKind.i64.wrap ((s.size : Int) - 1) = (s.size : Int) - 1 := fun _ => wrap_i64' (by omega) (by omega)
  have hsub0 : IntKind.i64.wrap ((s.size : Int) - 1) = (s.size : Int) - 1 := wrap_i64' (by omega) (by omega)
  induction n with
  | zero =>
    intro cs hn i hd l g H K id bs h0 h4 h3 hB hl he
    have : cs = [] := List.eq_nil_of_length_eq_zero (by omega)
    subst this
    have hlen := drop_none hd
    have hge : ¬ ((i : Int) < (s.size : Int) - 1) := by omega
    rw [run_loop]
    simp [L0_value_unquoted, h0, h4, hsub0, hge]
    exact he _ H (by simp [h3]) (by simpa [unq2] using hB)
  | succ n ih =>
    intro cs hn i hd l g H K id bs h0 h4 h3 hB hl he
    by_cases h2 : cs.length ≤ 1
    · have hge : ¬ ((i : Int) < (s.size : Int) - 1) := by
        have := congrArg List.length hd
        simp at this
        omega
      have hu : unq2 cs = [] := by
        match cs, h2 with
        | [], _ => rfl
        | [_], _ => rfl
      rw [run_loop]
      simp [L0_value_unquoted, h0, h4, hsub0, hge]
      exact he _ H (by simp [h3]) (by rw [hu]; simpa using hB)
    · obtain ⟨c, d, r, rfl⟩ : ∃ c d r, cs = c :: d :: r := by
        match cs, h2 with
        | c :: d :: r, _ => exact ⟨c, d, r, rfl⟩
        | [], h2 => simp at h2
        | [_], h2 => simp at h2
      obtain ⟨hg, hi, hd'⟩ := drop_some hd
      obtain ⟨hg2, hi2, hd2⟩ := drop_some hd'
      simp only [List.length_cons] at hn hl
      have hlt : (i : Int) < (s.size : Int) - 1 := by omega
      have hix := ix_ok (a := s) (i := i) (by omega)
      have hix2 := ix_ok (a := s) (i := i + 1) (by omega)
      have hw : IntKind.i64.wrap ((i : Int) + 1) = (i : Int) + 1 := wrap_i64' (by omega) (by omega)
      have hw2 : IntKind.i64.wrap ((i : Int) + 1 + 1) = (i : Int) + 1 + 1 := wrap_i64' (by omega) (by omega)
      have hg' : s.data[i]? = some c := by simpa using hg
      have hg2' : s.data[i + 1]? = some d := by simpa using hg2
      have hc1 : ((i + 1 : Nat) : Int) = (i : Int) + 1 := by omega
      rw [hc1] at hix2
      rw [run_loop, wp_seqK]
      by_cases h92 : c = 92
      · subst h92
        obtain ⟨H1, hw1, hB1⟩ := write_byte hB (by omega) d
        simp [L0_value_unquoted, h0, h4, h3, hsub0, hlt, hix, hix2, str_get, hg', hg2', hw, hw2, hw1]
        refine ih r (by omega) (i + 2) hd2 _ g H1 K id _ ?_ ?_ ?_ hB1 (by simp; omega) ?_
        · simp [h0]
        · simp; omega
        · simp [h3]
        · intro l' H' h1 h2
          refine he l' H' h1 ?_
          have : bs ++ unq2 (92 :: d :: r) = (bs ++ [d]) ++ unq2 r := by simp [unq2]
          rw [this]; exact h2
      · have a1 : ¬ c.toNat = 92 := fun h => h92 (UInt8.toNat_inj.1 h)
        have b1 : ¬ (c.toNat : Int) = 92 := by omega
        obtain ⟨H1, hw1, hB1⟩ := write_byte hB (by omega) c
        simp [L0_value_unquoted, h0, h4, h3, hsub0, hlt, hix, str_get, hg', hw, hw1, a1, b1]
        refine ih (d :: r) (by simp; omega) (i + 1) hd' _ g H1 K id _ ?_ ?_ ?_ hB1 (by simp; omega) ?_
        · simp [h0]
        · simp
        · simp [h3]
        · intro l' H' h1 h2
          refine he l' H' h1 ?_
          have : bs ++ unq2 (c :: d :: r) = (bs ++ [c]) ++ unq2 (d :: r) := by simp [unq2, h92]
          rw [this]; exact h2

theorem value_unquoted (s : ByteArray) (hs : s.size ≤ 1000) (H : GH) : ecall T f_value_unquoted [.str s] H = some (.str ⟨(unq2 (s.data.toList.drop 1)).toArray⟩, H) := by
  apply optW.eq
  rw [ecall_1 T_value_unquoted rfl (by simp [F_value_unquoted]), wp_fin1]
  have hsz : s.size = s.data.toList.length := by simp
  simp only [F_value_unquoted, b_value_unquoted]
  simp
  rw [wp_seqK, wp_blockK]
  refine unquoted_loop s hs 1000 (s.data.toList.drop 1) (by simp; omega) 1 rfl _ _ _ _ H.objs.length [] ?_ ?_ ?_ (new_bld H) (by simp; omega) ?_
  · simp
  · simp
  · simp
  · intro l' H' h1 h2
    have hbu := built h2
    simp [h1, hbu, clean_s]

end Go.Proofs.YtalhcaadpgadkaaGreatDoor
