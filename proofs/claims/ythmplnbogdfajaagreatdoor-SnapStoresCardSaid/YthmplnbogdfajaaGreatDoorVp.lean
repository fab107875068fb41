/- Own work: the shadow machine and what it shows, part Vp. -/
import Derived.Lib.Split
import Derived.Lib.AtoiAll
import Derived.Lib.ItoaNum
import Derived.Test.YthmplnbogdfajaaGreatDoorShA
import Derived.Lib.IndexMore
import Derived.Lib.Join
set_option linter.all false
namespace Go.Sh
open Go
def splitL (c : UInt8) : List UInt8 → List (List UInt8)
  | [] => [[]]
  | b :: l => if b = c then [] :: splitL c l else match splitL c l with
    | [] => [[b]]
    | p :: ps => (b :: p) :: ps
theorem split_unfold_hit {s : List UInt8} {c : UInt8} {i : Nat} (h : Lib.index s [c] = i) : Lib.split s [c] = s.take i :: Lib.split (s.drop (i + 1)) [c] := by
  have hm : ¬ (Lib.index s [c] == -1) = true := fun e => by have := beq_iff_eq.1 e; omega
  have e : (Lib.index s [c]).toNat = i := by omega
  unfold Lib.split
  rw [Lib.count_hit (by simp) h, Nat.add_comm 1, Lib.splitK, if_neg hm, e]
  simp
theorem split_unfold_miss {s : List UInt8} {c : UInt8} (h : Lib.index s [c] = -1) : Lib.split s [c] = [s] := by
  unfold Lib.split
  rw [Lib.count_miss h]; rfl
theorem split_one (c : UInt8) : ∀ s : List UInt8, Lib.split s [c] = splitL c s
  | [] => by rw [split_unfold_miss (by simp [Lib.index])]; rfl
  | b :: l => by
    have ih := split_one c l
    unfold splitL
    by_cases hb : b = c
    · subst hb
      rw [if_pos rfl, split_unfold_hit (i := 0) (by simp [Lib.index, List.isPrefixOf])]
      simp [ih]
    · rw [if_neg hb]
      have hp : List.isPrefixOf [c] (b :: l) = false := by simp [List.isPrefixOf]; exact fun h => hb h.symm
      by_cases hi : Lib.index l [c] = -1
      · rw [split_unfold_miss (by simp [Lib.index, hp, hi]), ← ih, split_unfold_miss hi]
      · have hge := Lib.index_ge l [c]
        obtain ⟨i, hi'⟩ : ∃ i : Nat, Lib.index l [c] = i := ⟨(Lib.index l [c]).toNat, by omega⟩
        rw [split_unfold_hit (i := i + 1) (by simp [Lib.index, hp, hi']), ← ih, split_unfold_hit hi']
        simp
def letter (c : UInt8) : Bool := decide (97 ≤ c.toNat ∧ c.toNat ≤ 122 ∨ 65 ≤ c.toNat ∧ c.toNat ≤ 90)
def inner (c : UInt8) : Bool := letter c || decide (48 ≤ c.toNat ∧ c.toNat ≤ 57 ∨ c.toNat = 95)
def nameL (l : List UInt8) : Bool := decide (1 ≤ l.length ∧ l.length ≤ 16) && (match l with | [] => false | c :: _ => letter c) && l.all inner
def plainL (l : List UInt8) : Bool := l.all (fun c => decide (32 ≤ c.toNat ∧ c.toNat ≤ 126)) && decide (l.length ≤ 64)
def linkL (l : List UInt8) : Option (List UInt8 × List UInt8 × List UInt8) := match splitL 62 l with
  | [a, b, c] => if nameL a && nameL b && nameL c then some (a, b, c) else none
  | _ => none
def rightV (k n : Int) (l : List UInt8) : Bool :=
  if k = 0 then decide (n = 0 ∧ l = [])
  else if k = 1 then decide ((n = 0 ∨ n = 1) ∧ l = [])
  else if k = 2 then decide (-1099511627776 ≤ n ∧ n ≤ 1099511627776 ∧ l = [])
  else if k = 3 then decide (n = 0) && plainL l
  else if k = 4 then decide (n = 0) && nameL l
  else if k = 5 then decide (n = 0) && (linkL l).isSome
  else false
def quoL : List UInt8 → List UInt8
  | [] => []
  | c :: l => if c = 39 ∨ c = 92 then 92 :: c :: quoL l else c :: quoL l
def txtR (k n : Int) (l : List UInt8) : List UInt8 :=
  if k = 0 then [110, 117, 108, 108]
  else if k = 1 then if n = 1 then [116, 114, 117, 101] else [102, 97, 108, 115, 101]
  else if k = 2 then Lib.itoa n
  else if k = 3 then 39 :: (quoL l ++ [39])
  else if k = 4 then 40 :: (l ++ [41])
  else 91 :: (l ++ [93])
def txtV (k n : Int) (l : List UInt8) : List UInt8 := if rightV k n l then txtR k n l else []
end Go.Sh
namespace Go.Sh
open Go
theorem dec_ne (u : Nat) : Lib.decDigits u ≠ [] := by
  intro h
  have := Lib.decDigits_length u
  have h2 := Lib.nDigits_pos u
  rw [h] at this; simp at this; omega
end Go.Sh
namespace Go.Sh
open Go
def unq2 : List UInt8 → List UInt8
  | c :: d :: l => if c = 92 then d :: unq2 l else c :: unq2 (d :: l)
  | _ => []
def mid (l : List UInt8) : List UInt8 := (l.drop 1).take (l.length - 2)
def atoiN (l : List UInt8) : Int := numCase (Lib.atoiAll l) (fun v => v) 0 (Lib.atoiSat l)
def guessV (l : List UInt8) : Int × Int × List UInt8 :=
  if l = [116, 114, 117, 101] then (1, 1, [])
  else if l = [102, 97, 108, 115, 101] then (1, 0, [])
  else if l = [110, 117, 108, 108] ∨ l = [] then (0, 0, [])
  else if 1 < l.length ∧ l.head? = some 39 then (3, 0, unq2 (l.drop 1))
  else if 1 < l.length ∧ l.head? = some 40 then (4, 0, mid l)
  else if 1 < l.length ∧ l.head? = some 91 then (5, 0, mid l)
  else (2, atoiN l, [])
def txt3 (v : Int × Int × List UInt8) : List UInt8 := txtV v.1 v.2.1 v.2.2
def parseV (l : List UInt8) : Option (Int × Int × List UInt8) := if l ≠ [] ∧ txt3 (guessV l) = l then some (guessV l) else none
end Go.Sh
namespace Go.Sh
open Go
def w1 (l : List UInt8) : List UInt8 := (Lib.cut l [32]).1
def r1 (l : List UInt8) : List UInt8 := (Lib.cut l [32]).2.1
def opsL : List (List UInt8) := [[], [97, 100, 100], [114, 101, 109, 111, 118, 101], [115, 101, 116], [99, 108, 101, 97, 114]]
def elsL : List (List UInt8) := [[], [110, 111, 100, 101], [108, 97, 98, 101, 108], [101, 100, 103, 101], [112, 114, 111, 112], [116, 114, 97, 105, 116]]
def nthL (L : List (List UInt8)) (k : Int) : List UInt8 := L.getD k.toNat []
structure Chg where
  op : Int
  ek : Int
  a : List UInt8
  b : List UInt8
  c : List UInt8
  d : List UInt8
  vk : Int
  vn : Int
  vt : List UInt8
def Chg.zero : Chg := ⟨0, 0, [], [], [], [], 0, 0, []⟩
def elemV (k : Int) (a b c d : List UInt8) : Bool :=
  if k = 1 then nameL a && decide (b = [] ∧ c = [] ∧ d = [])
  else if k = 2 ∨ k = 4 then nameL a && nameL d && decide (b = [] ∧ c = [])
  else if k = 3 then nameL a && nameL b && nameL c && decide (d = [])
  else if k = 5 then nameL a && nameL b && nameL c && nameL d
  else false
def Chg.none (x : Chg) : Bool := decide (x.vk = 0 ∧ x.vn = 0 ∧ x.vt = [])
def partsL (k : Int) (a b c d : List UInt8) : List (List UInt8) := if k = 1 then [a] else if k = 3 then [a, c, b] else if k = 5 then [a, c, b, d] else [a, d]
def Chg.text (x : Chg) : List UInt8 := Lib.join (nthL opsL x.op :: nthL elsL x.ek :: (partsL x.ek x.a x.b x.c x.d ++ (if x.none then [] else [txtV x.vk x.vn x.vt]))) [32]
def takeP (k : Int) (r : List UInt8) : List UInt8 × List UInt8 × List UInt8 × List UInt8 × List UInt8 :=
  if k = 1 then (w1 r, [], [], [], r1 r)
  else if k = 3 then (w1 r, w1 (r1 (r1 r)), w1 (r1 r), [], r1 (r1 (r1 r)))
  else if k = 5 then (w1 r, w1 (r1 (r1 r)), w1 (r1 r), w1 (r1 (r1 (r1 r))), r1 (r1 (r1 (r1 r))))
  else (w1 r, [], [], w1 (r1 r), r1 (r1 r))
def Chg.of (op ek : Int) (p : List UInt8 × List UInt8 × List UInt8 × List UInt8 × List UInt8) : Chg :=
  let v := if op = 3 then (parseV p.2.2.2.2).getD (0, 0, []) else (0, 0, [])
  ⟨op, ek, p.1, p.2.1, p.2.2.1, p.2.2.2.1, v.1, v.2.1, v.2.2⟩
theorem elem_kind {k : Int} {a b c d : List UInt8} (h : elemV k a b c d = true) : k = 1 ∨ k = 2 ∨ k = 3 ∨ k = 4 ∨ k = 5 := by
  unfold elemV at h
  split at h
  · omega
  · split at h
    · omega
    · split at h
      · omega
      · split at h
        · omega
        · cases h
end Go.Sh
