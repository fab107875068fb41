/- Own work, over the shadow machine: VSpec14. -/
import Derived.Test.YtbcdhjalciljaaaDoorSp13
set_option linter.all false
namespace Go.Proofs.YtbcdhjalciljaaaDoor
open Go.Sh
set_option maxRecDepth 100000

theorem list_iff (s : ByteArray) (l : List UInt8) : s.data.toList = l ↔ s = ⟨l.toArray⟩ := by
  constructor
  · intro h; exact ba_ext (by simpa using h)
  · rintro rfl; simp

/-- A value of three parts. -/
def val3 (v : Int × Int × List UInt8) : GV := .agg [.int .i64 v.1, .int .i64 v.2.1, .str ⟨v.2.2.toArray⟩]

theorem atoi_lib (s : ByteArray) (hs : s.size ≤ 1000) (H : GH) : ∃ e, ecall T f_strconv_Atoi [.str s] H = some (.tup [.int .i64 (atoiN s.data.toList), e], H) ∧ (∀ t, unbox t e = e) := by
  rw [ecall_lib T_strconv_Atoi (by decide) (by simp [F_strconv_Atoi])]
  have hz : s.size ≤ 281474976710656 := by omega
  simp only [libH, libP, lAtoi, F_strconv_Atoi, if_pos hz]
  unfold atoiN
  rcases Lib.atoiAll s.data.toList with v | _ | _
  · exact ⟨.niliface, rfl, fun _ => rfl⟩
  · exact ⟨_, rfl, fun _ => rfl⟩
  · exact ⟨_, rfl, fun _ => rfl⟩

theorem mid_slice (s : ByteArray) (h : 2 ≤ s.size) (hs : s.size ≤ 1000) : gBounds s.size true true false [.int .i64 1, .int .i64 ((s.size : Int) - 1)] = some (1, s.size - 1, none) ∧ s.extract 1 (s.size - 1) = ⟨(mid s.data.toList).toArray⟩ := by
  have e1 : gBound s.size (.int .i64 ((s.size : Int) - 1)) = some (s.size - 1) := by simp only [gBound]; rw [if_pos (by omega)]; congr 1; omega
  have e2 : gBound (s.size - 1) (.int .i64 1) = some 1 := by simp only [gBound]; rw [if_pos (by omega)]; rfl
  refine ⟨by simp [gBounds, e1, e2], ?_⟩
  apply ba_ext
  rw [Lib.extract_data]
  have := bs_size s
  simp only [mid]
  rw [← this, show s.size - 1 - 1 = s.size - 2 by omega]

theorem value_guess (s : ByteArray) (hs : s.size ≤ 1000) (H : GH) : ecall T f_value_guess [.str s] H = some (val3 (guessV s.data.toList), H) := by
  apply optW.eq
  rw [ecall_0 T_value_guess rfl (by simp [F_value_guess]), wp_fin1]
  have hsz := bs_size s
  unfold guessV
  simp only [F_value_guess, b_value_guess]
  by_cases h1 : s = ⟨#[116, 114, 117, 101]⟩
  · have hl := (list_iff s [116, 114, 117, 101]).2 h1
    rw [if_pos hl]
    simp [h1, gFill, setPart, val3]
  · have hl1 : ¬ s.data.toList = [116, 114, 117, 101] := fun h => h1 ((list_iff _ _).1 h)
    rw [if_neg hl1]
    by_cases h2 : s = ⟨#[102, 97, 108, 115, 101]⟩
    · have hl := (list_iff s [102, 97, 108, 115, 101]).2 h2
      rw [if_pos hl]
      simp [h2, gFill, setPart, val3]
    · have hl2 : ¬ s.data.toList = [102, 97, 108, 115, 101] := fun h => h2 ((list_iff _ _).1 h)
      rw [if_neg hl2]
      by_cases h3 : s = ⟨#[110, 117, 108, 108]⟩
      · have hl := (list_iff s [110, 117, 108, 108]).2 h3
        rw [if_pos (.inl hl)]
        simp [h3, gFill, setPart, val3]
      · have hl3 : ¬ s.data.toList = [110, 117, 108, 108] := fun h => h3 ((list_iff _ _).1 h)
        by_cases h4 : (s.size : Int) < 1
        · have hl4 : s.data.toList = [] := List.eq_nil_of_length_eq_zero (by omega)
          rw [if_pos (.inr hl4)]
          have h4' : s.size = 0 := by omega
          simp [h1, h2, h3, h4, h4', gFill, setPart, val3]
        · have hl4 : ¬ s.data.toList = [] := fun h => by
            have h0 : s.size = 0 := by rw [hsz, h]; rfl
            omega
          rw [if_neg (by rintro (h | h); exact hl3 h; exact hl4 h)]
          have h4' : ¬ s.size = 0 := by omega
          obtain ⟨c, r, hcr⟩ : ∃ c r, s.data.toList = c :: r := by
            cases hh : s.data.toList with
            | nil => exact absurd hh hl4
            | cons c r => exact ⟨c, r, rfl⟩
          have hix : gIx s.size (.int .i64 0) = some 0 := ix_ok (i := 0) (by omega)
          have hg0 : s.data[0]? = some c := by
            have : s.data.toList[0]? = some c := by rw [hcr]; rfl
            simpa using this
          have hgd : ∀ h : 0 < s.data.size, s.data[0]'h = c := fun h => by rw [Array.getElem?_eq_getElem h] at hg0; exact Option.some.inj hg0
          have hlt0 : 0 < s.size := by omega
          obtain ⟨e, hat, hub⟩ := atoi_lib s hs H
          by_cases h5 : (1 : Int) < s.size
          · have h5' : 1 < s.size := by omega
            have h5l : 1 < s.data.toList.length := by omega
            have hhd : s.data.toList.head? = some c := by rw [hcr]; rfl
            have hw : IntKind.i64.wrap ((s.size : Int) - 1) = (s.size : Int) - 1 := wrap_i64' (by omega) (by omega)
            obtain ⟨hgb, hmid⟩ := mid_slice s (by omega) hs
            simp only [hhd, h5l, true_and, Option.some.injEq]
            by_cases c1 : c = 39
            · rw [if_pos c1]
              have n1 : (39 : UInt8).toNat = 39 := rfl
              subst c1
              simp [h1, h2, h3, h4, h4', h5, h5', hix, str_get, hg0, hgd, hlt0, n1, value_unquoted s hs, gFill, setPart, val3]
            · rw [if_neg c1]
              have n1 : ¬ c.toNat = 39 := fun h => c1 (UInt8.toNat_inj.1 h)
              have m1 : ¬ (c.toNat : Int) = 39 := by omega
              by_cases c2 : c = 40
              · rw [if_pos c2]
                subst c2
                simp [h1, h2, h3, h4, h4', h5, h5', hix, str_get, hg0, hgd, hlt0, hw, hgb, hmid, gFill, setPart, val3]
              · rw [if_neg c2]
                have n2 : ¬ c.toNat = 40 := fun h => c2 (UInt8.toNat_inj.1 h)
                have m2 : ¬ (c.toNat : Int) = 40 := by omega
                by_cases c3 : c = 91
                · rw [if_pos c3]
                  subst c3
                  simp [h1, h2, h3, h4, h4', h5, h5', hix, str_get, hg0, hgd, hlt0, hw, hgb, hmid, gFill, setPart, val3]
                · rw [if_neg c3]
                  have n3 : ¬ c.toNat = 91 := fun h => c3 (UInt8.toNat_inj.1 h)
                  have m3 : ¬ (c.toNat : Int) = 91 := by omega
                  simp [h1, h2, h3, h4, h4', h5, h5', hix, str_get, hg0, hgd, hlt0, n1, m1, n2, m2, n3, m3, hat, hub, gFill, setPart, val3]
          · have h5' : ¬ 1 < s.size := by omega
            have h5l : ¬ 1 < s.data.toList.length := by omega
            simp only [h5l, false_and, if_false]
            simp [h1, h2, h3, h4, h4', h5, h5', hat, hub, gFill, setPart, val3]

theorem guess_small (l : List UInt8) (hl : l.length ≤ 1000) : (guessV l).2.2.length ≤ 1000 ∧ -9223372036854775808 ≤ (guessV l).2.1 ∧ (guessV l).2.1 ≤ 9223372036854775807 := by
  have hu : ∀ (n : Nat) (l : List UInt8), l.length ≤ n → (unq2 l).length ≤ l.length := by
    intro n
    induction n with
    | zero => intro l h; have : l = [] := List.eq_nil_of_length_eq_zero (by omega); subst this; simp [unq2]
    | succ n ih =>
      intro l h
      match l with
      | [] => simp [unq2]
      | [_] => simp [unq2]
      | c :: d :: r =>
        unfold unq2
        simp only [List.length_cons] at h
        split
        · have := ih r (by omega); simp; omega
        · have := ih (d :: r) (by simp; omega); simp at this ⊢; omega
  have hm : (mid l).length ≤ l.length := by simp [mid]; omega
  have ha : -9223372036854775808 ≤ atoiN l ∧ atoiN l ≤ 9223372036854775807 := by
    unfold atoiN
    cases h : Lib.atoiAll l with
    | ok v =>
      show -9223372036854775808 ≤ v ∧ v ≤ _
      unfold Lib.atoiAll at h
      split at h
      · cases h
      · simp only at h
        split at h
        · cases h
        · cases h
        · rename_i u _
          split at h
          · cases h
          · split at h
            · cases h
            · injection h with h
              split at h <;> omega
    | _ => first
      | (show -9223372036854775808 ≤ (0 : Int) ∧ (0 : Int) ≤ _; omega)
      | (show -9223372036854775808 ≤ Lib.atoiSat l ∧ Lib.atoiSat l ≤ _; unfold Lib.atoiSat; split <;> omega)
  unfold guessV
  split
  · simp
  · split
    · simp
    · split
      · simp
      · split
        · refine ⟨?_, by simp, by simp⟩
          have := hu _ (l.drop 1) (Nat.le_refl _)
          simp at this ⊢; omega
        · split
          · exact ⟨by simp only; omega, by simp, by simp⟩
          · split
            · exact ⟨by simp only; omega, by simp, by simp⟩
            · exact ⟨by simp, ha.1, ha.2⟩

/-- What a reading tells. -/
def opt3 : Option (Int × Int × List UInt8) → GV
  | some v => .tup [val3 v, .bool true]
  | none => .tup [val3 (0, 0, []), .bool false]

theorem value_Parse (s : ByteArray) (hs : s.size ≤ 1000) (H : GH) : ecall T f_value_Parse [.str s] H = some (opt3 (parseV s.data.toList), H) := by
  apply optW.eq
  rw [ecall_0 T_value_Parse rfl (by simp [F_value_Parse]), wp_fin1]
  have hsz := bs_size s
  have hg := value_guess s (by omega) H
  obtain ⟨g1, g2, g3⟩ := guess_small s.data.toList (by omega)
  obtain ⟨⟨k, n, t⟩, hkn⟩ : ∃ v, guessV s.data.toList = v := ⟨_, rfl⟩
  rw [hkn] at hg g1 g2 g3
  simp only at g1 g2 g3
  have hst := value_String k n ⟨t.toArray⟩ (by rw [ba_size]; omega) g2 g3 H
  have hdt : (⟨t.toArray⟩ : ByteArray).data.toList = t := by simp
  rw [hdt] at hst
  simp only [val3] at hg
  unfold parseV
  rw [hkn]
  simp only [F_value_Parse, b_value_Parse]
  by_cases h0 : s = ⟨#[]⟩
  · have hl : s.data.toList = [] := (empty_iff s).2 h0
    rw [if_neg (by rintro ⟨h, _⟩; exact h hl)]
    subst h0
    simp [hg, gFill, setPart, opt3, val3]
  · have hl : ¬ s.data.toList = [] := fun h => h0 ((empty_iff s).1 h)
    by_cases ht : txtV k n t = s.data.toList
    · have ht' : (⟨(txtV k n t).toArray⟩ : ByteArray) = s := ((list_iff s _).1 ht.symm).symm
      rw [if_pos ⟨hl, ht⟩]
      simp [h0, hg, hst, ht', setPart, opt3, val3]
    · have ht' : ¬ (⟨(txtV k n t).toArray⟩ : ByteArray) = s := fun h => ht ((list_iff s _).2 h.symm).symm
      rw [if_neg (by rintro ⟨_, h⟩; exact ht h)]
      simp [h0, hg, hst, ht', gFill, setPart, opt3, val3]
end Go.Proofs.YtbcdhjalciljaaaDoor
