/- Own work, over the shadow machine: VLaw2. -/
import Derived.Test.YtbcdhjalciljaaaDoorLa1
import Derived.Test.YtbcdhjalciljaaaDoorFix
set_option linter.all false
namespace Go.Proofs.YtbcdhjalciljaaaDoor
open Go.Sh
set_option maxRecDepth 100000

theorem cmpS_lex (a b : ByteArray) : cmpS a b = lexL a.data.toList b.data.toList := by
  unfold cmpS
  rw [ByteArray.toList_eq, ByteArray.toList_eq]
  exact lex_less _ _

theorem refS_lex (a b : ByteArray) : refS a b = lexL a.data.toList b.data.toList := by
  unfold refS
  have := lex_diff a.data.toList b.data.toList
  rw [← this]
  cases diff a.data.toList b.data.toList <;> rfl

theorem cmpV_ref (k n : Int) (s : ByteArray) (k' n' : Int) (s' : ByteArray) : cmpV k n s k' n' s' = refV k n s k' n' s' := by
  unfold cmpV refV or3 cmpI
  rw [cmpS_lex, refS_lex]
  by_cases h1 : k = k'
  · subst h1
    by_cases h2 : n = n'
    · subst h2; simp
    · by_cases h3 : n < n'
      · simp [h2, h3]
      · have h4 : n' < n := by omega
        simp [h2, h3, h4]
  · by_cases h3 : k < k'
    · simp [h1, h3]
    · have h4 : k' < k := by omega
      simp [h1, h3, h4]

theorem refV_swap (k n : Int) (s : ByteArray) (k' n' : Int) (s' : ByteArray) : refV k' n' s' k n s = - refV k n s k' n' s' := by
  unfold refV
  rw [refS_lex, refS_lex, lex_swap s.data.toList s'.data.toList]
  by_cases h1 : k = k'
  · subst h1
    by_cases h2 : n = n'
    · subst h2; simp
    · by_cases h3 : n < n'
      · have h4 : ¬ n' < n := by omega
        simp [h2, Ne.symm h2, h3, h4]
      · have h4 : n' < n := by omega
        simp [h2, Ne.symm h2, h3, h4]
  · by_cases h3 : k < k'
    · have h4 : ¬ k' < k := by omega
      simp [h1, Ne.symm h1, h3, h4]
    · have h4 : k' < k := by omega
      simp [h1, Ne.symm h1, h3, h4]

theorem refV_zero (k n : Int) (s : ByteArray) (k' n' : Int) (s' : ByteArray) : refV k n s k' n' s' = 0 ↔ (k = k' ∧ n = n' ∧ s = s') := by
  unfold refV
  rw [refS_lex]
  constructor
  · intro h
    split at h
    · split at h <;> simp at h
    · rename_i h1
      split at h
      · split at h <;> simp at h
      · rename_i h2
        have := lex_zero _ _ h
        refine ⟨by omega, by omega, ?_⟩
        rcases s with ⟨d⟩; rcases s' with ⟨d'⟩
        have h3 : d = d' := Array.toList_inj.1 this
        rw [h3]
  · rintro ⟨rfl, rfl, rfl⟩
    simp [lex_self]

theorem refV_trans (k n : Int) (s : ByteArray) (k' n' : Int) (s' : ByteArray) (k2 n2 : Int) (s2 : ByteArray) (h1 : refV k n s k' n' s' ≤ 0) (h2 : refV k' n' s' k2 n2 s2 ≤ 0) : refV k n s k2 n2 s2 ≤ 0 := by
  unfold refV at *
  rw [refS_lex] at *
  have ht := lex_trans s.data.toList s'.data.toList s2.data.toList
  split at h1
  · split at h1
    · split at h2
      · split at h2
        · rw [if_pos (by omega), if_pos (by omega)]; omega
        · omega
      · rw [if_pos (by omega), if_pos (by omega)]; omega
    · omega
  · split at h2
    · split at h2
      · rw [if_pos (by omega), if_pos (by omega)]; omega
      · omega
    · rw [if_neg (by omega)]
      split at h1
      · split at h1
        · split at h2
          · split at h2
            · rw [if_pos (by omega), if_pos (by omega)]; omega
            · omega
          · rw [if_pos (by omega), if_pos (by omega)]; omega
        · omega
      · split at h2
        · split at h2
          · rw [if_pos (by omega), if_pos (by omega)]; omega
          · omega
        · rw [if_neg (by omega)]
          exact ht h1 h2
end Go.Proofs.YtbcdhjalciljaaaDoor
