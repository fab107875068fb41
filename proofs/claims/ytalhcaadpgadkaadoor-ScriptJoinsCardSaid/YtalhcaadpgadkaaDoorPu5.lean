/- Own work, over the shadow machine: SPure2. -/
import Derived.Test.YtalhcaadpgadkaaDoorPu4
set_option linter.all false
namespace Go.Sh
open Go

/-! Steps, and their text. -/

structure Stp where
  k : Int
  r : Int
  s : Int
  i : Int
  kp : Int
  at_ : Int
  by_ : Int
  chs : List Chg

def Stp.num (x : Stp) : Nat → Int
  | 0 => x.k | 1 => x.r | 2 => x.s | 3 => x.i | 4 => x.kp | _ => x.at_

def Stp.setN (x : Stp) (j : Nat) (v : Int) : Stp :=
  match j with
  | 0 => { x with k := v } | 1 => { x with r := v } | 2 => { x with s := v } | 3 => { x with i := v } | 4 => { x with kp := v } | _ => { x with at_ := v }

/-- Where the numbers stand that belong to a kind. -/
def ownL (k : Int) : List Nat :=
  if k = 2 then [1, 2] else if k = 3 ∨ k = 4 ∨ k = 5 then [3] else if k = 6 then [3, 5] else if k = 7 then [1, 4, 5] else if k = 10 then [1, 5] else [1]

def turnB (k : Int) : Bool := decide (k = 6 ∨ k = 7 ∨ k = 10)

def okN (n : Int) : Bool := decide (-999999999 ≤ n ∧ n ≤ 999999999)

def Stp.plainB (x : Stp) : Bool :=
  [1, 2, 3, 4, 5].all (fun j => (ownL x.k).contains j || decide (x.num j = 0)) && (decide (turnB x.k = true ∨ x.by_ = 0) && decide (x.k = 1 ∧ x.chs.length ≤ 64 ∨ x.chs.length = 0))

def Stp.okB (x : Stp) : Bool :=
  decide (1 ≤ x.k ∧ x.k ≤ 11) && (x.plainB && ((ownL x.k).all (fun j => okN (x.num j)) && x.chs.all Chg.okB))

def Stp.tail (x : Stp) : List (List UInt8) := (if turnB x.k then [Lib.itoa x.by_] else []) ++ (if x.k = 1 then [Lib.itoa x.chs.length] else [])
def Stp.words (x : Stp) : List (List UInt8) := nthL namL x.k :: ((ownL x.k).map (fun j => Lib.itoa (x.num j)) ++ x.tail)
def Stp.lines (x : Stp) : List (List UInt8) := Lib.join x.words [32] :: x.chs.map Chg.text
def Stp.text (x : Stp) : List UInt8 := Lib.join x.lines [10] ++ [10]

def textL (L : List Stp) : List UInt8 := L.flatMap Stp.text

theorem join_flat (x : UInt8) (w : List UInt8) : ∀ ws : List (List UInt8), Lib.join (w :: ws) [x] = w ++ ws.flatMap (fun v => x :: v) := by
  intro ws
  induction ws generalizing w with
  | nil => simp [Lib.join_one]
  | cons v ws ih => rw [join_cons]; simp only; rw [ih]; simp

theorem join_end (x : UInt8) : ∀ ws : List (List UInt8), ws ≠ [] → Lib.join ws [x] ++ [x] = ws.flatMap (fun v => v ++ [x]) := by
  intro ws
  induction ws with
  | nil => intro h; exact absurd rfl h
  | cons v ws ih =>
    intro _
    rw [join_cons]
    cases ws with
    | nil => simp
    | cons u ws => have := ih (by simp); simp only [List.flatMap_cons] at this ⊢; rw [← this]; simp

theorem Stp.text_flat (x : Stp) : x.text = nthL namL x.k ++ (ownL x.k).flatMap (fun j => 32 :: Lib.itoa (x.num j)) ++ x.tail.flatMap (fun v => 32 :: v) ++ [10] ++ x.chs.flatMap (fun c => c.text ++ [10]) := by
  unfold Stp.text Stp.lines
  rw [join_end 10 _ (by simp)]
  simp only [List.flatMap_cons, Stp.words, join_flat, List.flatMap_append, List.flatMap_map]
  simp

/-! ## Reading -/

/-- A line taken: the line, what is left, whether something was bad. -/
def lineR (rest : List UInt8) (bad : Bool) : List UInt8 × List UInt8 × Bool :=
  ((Lib.cut rest [10]).1, (Lib.cut rest [10]).2.1, bad || !(Lib.cut rest [10]).2.2)

theorem lineR_hit (w r : List UInt8) (bad : Bool) (h : (10 : UInt8) ∉ w) : lineR (w ++ 10 :: r) bad = (w, r, bad) := by
  unfold lineR; rw [cut_hit 10 w r h]; simp

theorem lineR_len (rest : List UInt8) (bad : Bool) : (lineR rest bad).1.length ≤ rest.length ∧ (lineR rest bad).2.1.length ≤ rest.length ∧ ((lineR rest bad).2.2 = true ∨ (lineR rest bad).1.length + (lineR rest bad).2.1.length + 1 = rest.length) := by
  unfold lineR
  rcases cut_cases 10 rest with ⟨w, r, _, e, h⟩ | ⟨_, h⟩
  · rw [h, e]; refine ⟨by simp, by simp; omega, .inr (by simp; omega)⟩
  · rw [h]; simp

/-- A number told by a word; bad: it is none. -/
def numO (w : List UInt8) : Int × Bool := numCase (Lib.atoiAll w) (fun v => (v, false)) (0, true) (Lib.atoiSat w, true)

def takeN : List Nat → Stp → List UInt8 → Bool → Stp × List UInt8 × Bool
  | [], x, l, bad => (x, l, bad)
  | j :: js, x, l, bad => takeN js (x.setN j (numO (w1 l)).1) (r1 l) (bad || (numO (w1 l)).2)

/-- Changes' lines, so many. -/
def takeC : Nat → List UInt8 → Bool → List Chg → List Chg × List UInt8 × Bool
  | 0, rest, bad, done => (done, rest, bad)
  | n + 1, rest, bad, done =>
    match readC (lineR rest bad).1 with
    | none => (done, (lineR rest bad).2.1, true)
    | some c => if (lineR rest bad).2.2 = true then (done, (lineR rest bad).2.1, true) else takeC n (lineR rest bad).2.1 false (done ++ [c])

def byteOf (n : Int) : Int := IntKind.u8.wrap n

def stepBc (x : Stp) (l rest : List UInt8) (bad : Bool) : Stp × List UInt8 × Bool :=
  if x.k = 1 then
    let m := (numO (w1 l)).1
    let t := takeC (min m 64).toNat rest (bad || (numO (w1 l)).2) []
    ({ x with chs := t.1 }, t.2.1, t.2.2)
  else (x, rest, bad)

def stepTu (x : Stp) (l rest : List UInt8) (bad : Bool) : Stp × List UInt8 × Bool :=
  if turnB x.k = true then
    let n := numO (w1 l)
    stepBc { x with by_ := byteOf n.1 } (r1 l) rest (bad || n.2 || decide (n.1 < 0 ∨ 255 < n.1))
  else stepBc x l rest bad

/-- A step read. -/
def stepR (rest : List UInt8) (bad : Bool) : Stp × List UInt8 × Bool :=
  let t := lineR rest bad
  let k := idxL (w1 t.1) namL 0
  if k < 1 then (⟨k, 0, 0, 0, 0, 0, 0, []⟩, t.2.1, true)
  else
    let u := takeN (ownL k) ⟨k, 0, 0, 0, 0, 0, 0, []⟩ (r1 t.1) t.2.2
    stepTu u.1 u.2.1 t.2.1 u.2.2

/-- Steps read, as many as there are; in how many turns at most. -/
def readG : Nat → List UInt8 → Bool → List Stp → List Stp × Bool
  | 0, rest, bad, done => (done, bad)
  | n + 1, rest, bad, done => if rest = [] ∨ bad = true then (done, bad) else
    let t := stepR rest bad
    readG n t.2.1 t.2.2 (done ++ [t.1])

def readL (s : List UInt8) : Option (List Stp) :=
  let t := readG (s.length + 1) s false []
  if t.2 = false ∧ t.1.all Stp.okB = true ∧ textL t.1 = s then some t.1 else none
end Go.Sh
