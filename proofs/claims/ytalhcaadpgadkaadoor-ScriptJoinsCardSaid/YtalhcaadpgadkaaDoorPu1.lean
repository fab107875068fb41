/- Own work, over the shadow machine: VPure1. -/
import Derived.Lib.Split
import Derived.Lib.AtoiAll
import Derived.Lib.ItoaNum
set_option linter.all false
namespace Go.Sh
open Go

/-! What the value laws need of plain rows of bytes. -/

def splitL (c : UInt8) : List UInt8 → List (List UInt8)
  | [] => [[]]
  | b :: l => if b = c then [] :: splitL c l else match splitL c l with
    | [] => [[b]]
    | p :: ps => (b :: p) :: ps

theorem split_unfold_hit {s : List UInt8} {c : UInt8} {i : Nat} (h : Lib.index s [c] = i) : Lib.split s [c] = s.take i :: Lib.split (s.drop (i + 1)) [c] := by
  have hm : ¬ (Lib.index s [c] == -1) = true := fun e => by have := beq_iff_eq.1 e; omega
  have e : (Lib.index s [c]).toNat = i := by omega
  unfold Lib.split
  rw [Lib.count_hit (by simp) h, Nat.add_comm 1, Lib.splitK, if_neg hm, e]
  simp

theorem split_unfold_miss {s : List UInt8} {c : UInt8} (h : Lib.index s [c] = -1) : Lib.split s [c] = [s] := by
  unfold Lib.split
  rw [Lib.count_miss h]; rfl

theorem split_one (c : UInt8) : ∀ s : List UInt8, Lib.split s [c] = splitL c s
  | [] => by rw [split_unfold_miss (by simp [Lib.index])]; rfl
  | b :: l => by
    have ih := split_one c l
    unfold splitL
    by_cases hb : b = c
    · subst hb
      rw [if_pos rfl, split_unfold_hit (i := 0) (by simp [Lib.index, List.isPrefixOf])]
      simp [ih]
    · rw [if_neg hb]
      have hp : List.isPrefixOf [c] (b :: l) = false := by simp [List.isPrefixOf]; exact fun h => hb h.symm
      by_cases hi : Lib.index l [c] = -1
      · rw [split_unfold_miss (by simp [Lib.index, hp, hi]), ← ih, split_unfold_miss hi]
      · have hge := Lib.index_ge l [c]
        obtain ⟨i, hi'⟩ : ∃ i : Nat, Lib.index l [c] = i := ⟨(Lib.index l [c]).toNat, by omega⟩
        rw [split_unfold_hit (i := i + 1) (by simp [Lib.index, hp, hi']), ← ih, split_unfold_hit hi']
        simp

def letter (c : UInt8) : Bool := decide (97 ≤ c.toNat ∧ c.toNat ≤ 122 ∨ 65 ≤ c.toNat ∧ c.toNat ≤ 90)
def inner (c : UInt8) : Bool := letter c || decide (48 ≤ c.toNat ∧ c.toNat ≤ 57 ∨ c.toNat = 95)
def nameL (l : List UInt8) : Bool := decide (1 ≤ l.length ∧ l.length ≤ 16) && (match l with | [] => false | c :: _ => letter c) && l.all inner
def plainL (l : List UInt8) : Bool := l.all (fun c => decide (32 ≤ c.toNat ∧ c.toNat ≤ 126)) && decide (l.length ≤ 64)
def linkL (l : List UInt8) : Option (List UInt8 × List UInt8 × List UInt8) := match splitL 62 l with
  | [a, b, c] => if nameL a && nameL b && nameL c then some (a, b, c) else none
  | _ => none

/-- May a value be? -/
def rightV (k n : Int) (l : List UInt8) : Bool :=
  if k = 0 then decide (n = 0 ∧ l = [])
  else if k = 1 then decide ((n = 0 ∨ n = 1) ∧ l = [])
  else if k = 2 then decide (-1099511627776 ≤ n ∧ n ≤ 1099511627776 ∧ l = [])
  else if k = 3 then decide (n = 0) && plainL l
  else if k = 4 then decide (n = 0) && nameL l
  else if k = 5 then decide (n = 0) && (linkL l).isSome
  else false

/-- A text's bytes, with what hides a quote. -/
def quoL : List UInt8 → List UInt8
  | [] => []
  | c :: l => if c = 39 ∨ c = 92 then 92 :: c :: quoL l else c :: quoL l

def txtR (k n : Int) (l : List UInt8) : List UInt8 :=
  if k = 0 then [110, 117, 108, 108]
  else if k = 1 then if n = 1 then [116, 114, 117, 101] else [102, 97, 108, 115, 101]
  else if k = 2 then Lib.itoa n
  else if k = 3 then 39 :: (quoL l ++ [39])
  else if k = 4 then 40 :: (l ++ [41])
  else 91 :: (l ++ [93])

/-- A value's text. -/
def txtV (k n : Int) (l : List UInt8) : List UInt8 := if rightV k n l then txtR k n l else []

/-- What stands between quotes: a reading that looks at each pair. -/
def unqL : List UInt8 → List UInt8
  | [] => []
  | [c] => [c]
  | c :: d :: l => if c = 92 then d :: unqL l else c :: unqL (d :: l)

theorem unq_quo : ∀ l : List UInt8, unqL (quoL l) = l
  | [] => rfl
  | c :: l => by
    have ih := unq_quo l
    unfold quoL
    by_cases h : c = 39 ∨ c = 92
    · rw [if_pos h, unqL, if_pos rfl, ih]
    · rw [if_neg h]
      have h2 : c ≠ 92 := fun e => h (.inr e)
      cases hq : quoL l with
      | nil =>
        cases l with
        | nil => rfl
        | cons a b => simp [quoL] at hq; split at hq <;> simp at hq
      | cons d q => rw [unqL, if_neg h2, ← hq, ih]
end Go.Sh
