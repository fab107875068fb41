/- Own work, over the shadow machine: VLaw1. -/
import Derived.Test.YtbcdhjalciljaaaDoorSp3
set_option linter.all false
namespace Go.Proofs.YtbcdhjalciljaaaDoor
open Go.Sh

/-! ## Values are ordered: the plain law -/

def lexL : List UInt8 → List UInt8 → Int
  | [], [] => 0
  | [], _ :: _ => -1
  | _ :: _, [] => 1
  | x :: a, y :: b => if x = y then lexL a b else if x < y then -1 else 1

theorem lex_less : ∀ (a b : List UInt8), (if Op.bytesLess a b = true then (-1 : Int) else if a = b then 0 else 1) = lexL a b
  | [], [] => by simp [Op.bytesLess, lexL]
  | [], _ :: _ => by simp [Op.bytesLess, lexL]
  | _ :: _, [] => by simp [Op.bytesLess, lexL]
  | x :: a, y :: b => by
    have ih := lex_less a b
    by_cases h : x = y
    · subst h
      have hx : ¬ x < x := by rw [UInt8.lt_iff_toNat_lt]; omega
      simp only [Op.bytesLess, lexL, hx, decide_false, beq_self_eq_true, Bool.true_and, Bool.false_or, if_true, List.cons.injEq, true_and]
      exact ih
    · by_cases h2 : x < y <;> simp [Op.bytesLess, lexL, h, h2]

theorem lex_diff : ∀ (a b : List UInt8), (match diff a b with | some v => v | none => cmpI a.length b.length) = lexL a b
  | [], [] => by simp [diff, lexL, cmpI]
  | [], y :: b => by
    have : ((0 : Nat) : Int) < ((y :: b).length : Int) := by simp
    simp only [diff, lexL, cmpI, List.length_nil]
    rw [if_pos this]
  | x :: a, [] => by
    have : ((0 : Nat) : Int) < ((x :: a).length : Int) := by simp
    simp only [diff, lexL, cmpI, List.length_nil]
    rw [if_neg (by omega), if_pos this]
  | x :: a, y :: b => by
    have ih := lex_diff a b
    by_cases h : x = y
    · subst h
      simp only [diff, lexL, if_true]
      rw [← ih]
      cases diff a b with
      | some v => rfl
      | none =>
        simp only [cmpI, List.length_cons]
        congr 1
        · simp
        · simp
    · simp [diff, lexL, h]

theorem lex_self : ∀ a, lexL a a = 0
  | [] => rfl
  | x :: a => by simp [lexL, lex_self a]

theorem lex_zero : ∀ a b, lexL a b = 0 → a = b
  | [], [], _ => rfl
  | [], _ :: _, h => by simp [lexL] at h
  | _ :: _, [], h => by simp [lexL] at h
  | x :: a, y :: b, h => by
    simp only [lexL] at h
    split at h
    · rename_i e; subst e; rw [lex_zero a b h]
    · split at h <;> simp at h

theorem lex_swap : ∀ a b, lexL b a = - lexL a b
  | [], [] => rfl
  | [], _ :: _ => rfl
  | _ :: _, [] => rfl
  | x :: a, y :: b => by
    simp only [lexL]
    by_cases h : x = y
    · subst h; simp [lex_swap a b]
    · have h' : ¬ y = x := fun e => h e.symm
      by_cases h2 : x < y
      · have h3 : ¬ y < x := by rw [UInt8.lt_iff_toNat_lt] at *; omega
        simp [h, h', h2, h3]
      · have h3 : y < x := by
          have : x.toNat ≠ y.toNat := fun e => h (UInt8.toNat_inj.1 e)
          rw [UInt8.lt_iff_toNat_lt] at *; omega
        simp [h, h', h2, h3]

theorem lex_trans : ∀ a b c, lexL a b ≤ 0 → lexL b c ≤ 0 → lexL a c ≤ 0
  | [], _, [], _, _ => by simp [lexL]
  | [], _, _ :: _, _, _ => by simp [lexL]
  | _ :: _, [], _, h, _ => by simp [lexL] at h
  | _ :: _, _ :: _, [], _, h => by simp [lexL] at h
  | x :: a, y :: b, z :: c, h1, h2 => by
    simp only [lexL] at h1 h2 ⊢
    by_cases e1 : x = y
    · subst e1
      by_cases e2 : x = z
      · subst e2
        simp only [if_true] at h1 h2 ⊢
        exact lex_trans a b c h1 h2
      · simp only [e2, if_false] at h2 ⊢
        exact h2
    · simp only [e1, if_false] at h1
      have l1 : x < y := by
        by_cases l : x < y
        · exact l
        · simp [l] at h1
      by_cases e2 : y = z
      · subst e2
        simp [e1, l1]
      · simp only [e2, if_false] at h2
        have l2 : y < z := by
          by_cases l : y < z
          · exact l
          · simp [l] at h2
        have l3 : x < z := by rw [UInt8.lt_iff_toNat_lt] at *; omega
        have e3 : ¬ x = z := by rintro rfl; rw [UInt8.lt_iff_toNat_lt] at l3; omega
        simp [e3, l3]
end Go.Proofs.YtbcdhjalciljaaaDoor
