/- Own work, over the shadow machine: SPure1. -/
import Derived.Test.YtalhcaadpgadkaaDoorPu3
import Derived.Lib.IndexMore
import Derived.Lib.Join
set_option linter.all false
namespace Go.Sh
open Go

/-! What the script laws need of plain rows of bytes: words, and a change's line. -/

theorem index_hit (x : UInt8) (r : List UInt8) : ∀ w : List UInt8, x ∉ w → Lib.index (w ++ x :: r) [x] = w.length
  | [], _ => by simp [Lib.index, List.isPrefixOf]
  | b :: w, h => by
    have h1 : ¬ x = b := fun e => h (by simp [e])
    have ih := index_hit x r w (fun e => h (by simp [e]))
    have h2 : ¬ ((w.length : Int) = -1) := by omega
    have h3 : ((x == b) && ([] : List UInt8).isPrefixOf (w ++ x :: r)) = false := by simp [h1]
    simp [Lib.index, List.isPrefixOf, h1, ih, h2]

theorem index_miss (x : UInt8) : ∀ w : List UInt8, x ∉ w → Lib.index w [x] = -1
  | [], _ => by simp [Lib.index]
  | b :: w, h => by
    have h1 : ¬ x = b := fun e => h (by simp [e])
    have ih := index_miss x w (fun e => h (by simp [e]))
    simp [Lib.index, List.isPrefixOf, h1, ih]

theorem cut_hit (x : UInt8) (w r : List UInt8) (h : x ∉ w) : Lib.cut (w ++ x :: r) [x] = (w, r, true) := by
  unfold Lib.cut
  rw [index_hit x r w h, if_pos (by omega)]
  have e : w.length + 1 = (w ++ [x]).length := by simp
  simp

theorem cut_miss (x : UInt8) (w : List UInt8) (h : x ∉ w) : Lib.cut w [x] = (w, [], false) := by
  unfold Lib.cut
  rw [index_miss x w h, if_neg (by omega)]

theorem cut_cases (x : UInt8) (l : List UInt8) : (∃ w r, x ∉ w ∧ l = w ++ x :: r ∧ Lib.cut l [x] = (w, r, true)) ∨ (x ∉ l ∧ Lib.cut l [x] = (l, [], false)) := by
  by_cases h : x ∈ l
  · obtain ⟨w, r, e, hw⟩ := List.eq_append_cons_of_mem h
    exact .inl ⟨w, r, hw, e, by rw [e]; exact cut_hit x w r hw⟩
  · exact .inr ⟨h, cut_miss x l h⟩

def w1 (l : List UInt8) : List UInt8 := (Lib.cut l [32]).1
def r1 (l : List UInt8) : List UInt8 := (Lib.cut l [32]).2.1

theorem w1_len (l : List UInt8) : (w1 l).length ≤ l.length := by
  unfold w1
  rcases cut_cases 32 l with ⟨w, r, _, e, h⟩ | ⟨_, h⟩
  · rw [h, e]; simp
  · rw [h]; simp
theorem r1_len (l : List UInt8) : (r1 l).length ≤ l.length := by
  unfold r1
  rcases cut_cases 32 l with ⟨w, r, _, e, h⟩ | ⟨_, h⟩
  · rw [h, e]; simp; omega
  · rw [h]; simp

theorem join_cons (x : UInt8) (w : List UInt8) (ws : List (List UInt8)) : Lib.join (w :: ws) [x] = w ++ (match ws with | [] => [] | _ => x :: Lib.join ws [x]) := by
  cases ws with
  | nil => simp [Lib.join_one]
  | cons v ws => simp [Lib.join, List.intercalate, List.intersperse]

theorem cut_join (x : UInt8) (w : List UInt8) (ws : List (List UInt8)) (h : x ∉ w) : (Lib.cut (Lib.join (w :: ws) [x]) [x]).1 = w ∧ (Lib.cut (Lib.join (w :: ws) [x]) [x]).2.1 = Lib.join ws [x] := by
  rw [join_cons]
  cases ws with
  | nil => simp only [List.append_nil]; rw [cut_miss x w h]; exact ⟨rfl, rfl⟩
  | cons v ws => simp only; rw [cut_hit x w _ h]; exact ⟨rfl, rfl⟩

theorem w1_join (w : List UInt8) (ws : List (List UInt8)) (h : (32 : UInt8) ∉ w) : w1 (Lib.join (w :: ws) [32]) = w := (cut_join 32 w ws h).1
theorem r1_join (w : List UInt8) (ws : List (List UInt8)) (h : (32 : UInt8) ∉ w) : r1 (Lib.join (w :: ws) [32]) = Lib.join ws [32] := (cut_join 32 w ws h).2

/-- Where a word stands in a row; -1: nowhere. -/
def idxL (w : List UInt8) : List (List UInt8) → Nat → Int
  | [], _ => -1
  | y :: l, i => if w = y then i else idxL w l (i + 1)

theorem idxL_range (w : List UInt8) : ∀ (l : List (List UInt8)) (i : Nat), idxL w l i = -1 ∨ ((i : Int) ≤ idxL w l i ∧ idxL w l i < i + l.length ∧ l[(idxL w l i).toNat - i]? = some w)
  | [], i => .inl rfl
  | y :: l, i => by
    unfold idxL
    split
    · rename_i h
      refine .inr ⟨by omega, by simp; omega, ?_⟩
      simp [h]
    · rcases idxL_range w l (i + 1) with h | ⟨h1, h2, h3⟩
      · exact .inl h
      · refine .inr ⟨by omega, by simp; omega, ?_⟩
        have e : (idxL w l (i + 1)).toNat - i = ((idxL w l (i + 1)).toNat - (i + 1)) + 1 := by omega
        rw [e]; simpa using h3

def opsL : List (List UInt8) := [[], [97, 100, 100], [114, 101, 109, 111, 118, 101], [115, 101, 116], [99, 108, 101, 97, 114]]
def elsL : List (List UInt8) := [[], [110, 111, 100, 101], [108, 97, 98, 101, 108], [101, 100, 103, 101], [112, 114, 111, 112], [116, 114, 97, 105, 116]]
def namL : List (List UInt8) := [[], [119, 114, 105, 116, 101], [116, 105, 99, 107], [100, 101, 108, 105, 118, 101, 114], [100, 114, 111, 112], [100, 111, 117, 98, 108, 101], [116, 117, 114, 110], [99, 114, 97, 115, 104], [114, 101, 99, 111, 118, 101, 114], [99, 111, 109, 112, 97, 99, 116], [115, 112, 111, 105, 108], [115, 121, 110, 99]]

/-- The word of a number. -/
def nthL (L : List (List UInt8)) (k : Int) : List UInt8 := L.getD k.toNat []

/-- A change: what is done, the element's kind and names, the value. -/
structure Chg where
  op : Int
  ek : Int
  a : List UInt8
  b : List UInt8
  c : List UInt8
  d : List UInt8
  vk : Int
  vn : Int
  vt : List UInt8

def Chg.zero : Chg := ⟨0, 0, [], [], [], [], 0, 0, []⟩

/-- May an element be? -/
def elemV (k : Int) (a b c d : List UInt8) : Bool :=
  if k = 1 then nameL a && decide (b = [] ∧ c = [] ∧ d = [])
  else if k = 2 ∨ k = 4 then nameL a && nameL d && decide (b = [] ∧ c = [])
  else if k = 3 then nameL a && nameL b && nameL c && decide (d = [])
  else if k = 5 then nameL a && nameL b && nameL c && nameL d
  else false

def Chg.none (x : Chg) : Bool := decide (x.vk = 0 ∧ x.vn = 0 ∧ x.vt = [])
def Chg.okB (x : Chg) : Bool := decide (1 ≤ x.op ∧ x.op ≤ 4) && (elemV x.ek x.a x.b x.c x.d && (rightV x.vk x.vn x.vt && (x.none != decide (x.op = 3))))
def partsL (k : Int) (a b c d : List UInt8) : List (List UInt8) := if k = 1 then [a] else if k = 3 then [a, c, b] else if k = 5 then [a, c, b, d] else [a, d]
def Chg.text (x : Chg) : List UInt8 := Lib.join (nthL opsL x.op :: nthL elsL x.ek :: (partsL x.ek x.a x.b x.c x.d ++ (if x.none then [] else [txtV x.vk x.vn x.vt]))) [32]

/-- The words that an element's kind wants, and what is left. -/
def takeP (k : Int) (r : List UInt8) : List UInt8 × List UInt8 × List UInt8 × List UInt8 × List UInt8 :=
  if k = 1 then (w1 r, [], [], [], r1 r)
  else if k = 3 then (w1 r, w1 (r1 (r1 r)), w1 (r1 r), [], r1 (r1 (r1 r)))
  else if k = 5 then (w1 r, w1 (r1 (r1 r)), w1 (r1 r), w1 (r1 (r1 (r1 r))), r1 (r1 (r1 (r1 r))))
  else (w1 r, [], [], w1 (r1 r), r1 (r1 r))

def Chg.of (op ek : Int) (p : List UInt8 × List UInt8 × List UInt8 × List UInt8 × List UInt8) : Chg :=
  let v := if op = 3 then (parseV p.2.2.2.2).getD (0, 0, []) else (0, 0, [])
  ⟨op, ek, p.1, p.2.1, p.2.2.1, p.2.2.2.1, v.1, v.2.1, v.2.2⟩

def readC (s : List UInt8) : Option Chg :=
  if idxL (w1 s) opsL 0 < 1 ∨ idxL (w1 (r1 s)) elsL 0 < 1 then Option.none
  else
    let c := Chg.of (idxL (w1 s) opsL 0) (idxL (w1 (r1 s)) elsL 0) (takeP (idxL (w1 (r1 s)) elsL 0) (r1 (r1 s)))
    if c.okB = true ∧ c.text = s then some c else Option.none

theorem readC_some {s : List UInt8} {c : Chg} (h : readC s = some c) : c.okB = true ∧ c.text = s := by
  unfold readC at h
  split at h
  · cases h
  · simp only at h
    split at h
    · rename_i hc
      injection h with h
      subst h
      exact hc
    · cases h

theorem inner32 (l : List UInt8) (h : l.all inner = true) : (32 : UInt8) ∉ l := by
  intro hm
  have := List.all_eq_true.1 h 32 hm
  revert this; decide
theorem name32 {l : List UInt8} (h : nameL l = true) : (32 : UInt8) ∉ l := by
  simp only [nameL, Bool.and_eq_true] at h
  exact inner32 l h.2

theorem op_cases {k : Int} (h : 1 ≤ k ∧ k ≤ 4) : k = 1 ∨ k = 2 ∨ k = 3 ∨ k = 4 := by omega
theorem op_word {k : Int} (h : 1 ≤ k ∧ k ≤ 4) : (32 : UInt8) ∉ nthL opsL k ∧ idxL (nthL opsL k) opsL 0 = k := by
  rcases op_cases h with rfl | rfl | rfl | rfl <;> decide
theorem el_word {k : Int} (h : k = 1 ∨ k = 2 ∨ k = 3 ∨ k = 4 ∨ k = 5) : (32 : UInt8) ∉ nthL elsL k ∧ idxL (nthL elsL k) elsL 0 = k := by
  rcases h with rfl | rfl | rfl | rfl | rfl <;> decide
theorem elem_kind {k : Int} {a b c d : List UInt8} (h : elemV k a b c d = true) : k = 1 ∨ k = 2 ∨ k = 3 ∨ k = 4 ∨ k = 5 := by
  unfold elemV at h
  split at h
  · omega
  · split at h
    · omega
    · split at h
      · omega
      · split at h
        · omega
        · cases h

/-- The words are taken as they were put. -/
theorem takeP_text {k : Int} {a b c d : List UInt8} (h : elemV k a b c d = true) (vs : List (List UInt8)) : takeP k (Lib.join (partsL k a b c d ++ vs) [32]) = (a, b, c, d, Lib.join vs [32]) := by
  rcases elem_kind h with rfl | rfl | rfl | rfl | rfl
  · simp [elemV] at h
    obtain ⟨ha, rfl, rfl, rfl⟩ := h
    have na := name32 ha
    simp [takeP, partsL, w1_join, r1_join, na]
  · simp [elemV] at h
    obtain ⟨⟨ha, hd⟩, rfl, rfl⟩ := h
    have na := name32 ha; have nd := name32 hd
    simp [takeP, partsL, w1_join, r1_join, na, nd]
  · simp [elemV] at h
    obtain ⟨⟨⟨ha, hb⟩, hc⟩, rfl⟩ := h
    have na := name32 ha; have nb := name32 hb; have nc := name32 hc
    simp [takeP, partsL, w1_join, r1_join, na, nb, nc]
  · simp [elemV] at h
    obtain ⟨⟨ha, hd⟩, rfl, rfl⟩ := h
    have na := name32 ha; have nd := name32 hd
    simp [takeP, partsL, w1_join, r1_join, na, nd]
  · simp [elemV] at h
    obtain ⟨⟨⟨ha, hb⟩, hc⟩, hd⟩ := h
    have na := name32 ha; have nb := name32 hb; have nc := name32 hc; have nd := name32 hd
    simp [takeP, partsL, w1_join, r1_join, na, nb, nc, nd]

/-- A change's line is read as it was. -/
theorem readC_text (x : Chg) (h : x.okB = true) : readC x.text = some x := by
  have h0 := h
  simp only [Chg.okB, Bool.and_eq_true, decide_eq_true_eq, bne_iff_ne, ne_eq] at h
  obtain ⟨hop, hel, hv, hn⟩ := h
  obtain ⟨o1, o2⟩ := op_word hop
  obtain ⟨e1, e2⟩ := el_word (elem_kind hel)
  have f1 : w1 x.text = nthL opsL x.op := w1_join _ _ o1
  have f2 : r1 x.text = Lib.join (nthL elsL x.ek :: (partsL x.ek x.a x.b x.c x.d ++ (if x.none then [] else [txtV x.vk x.vn x.vt]))) [32] := r1_join _ _ o1
  have f3 : w1 (r1 x.text) = nthL elsL x.ek := by rw [f2]; exact w1_join _ _ e1
  have f4 : r1 (r1 x.text) = Lib.join (partsL x.ek x.a x.b x.c x.d ++ (if x.none then [] else [txtV x.vk x.vn x.vt])) [32] := by rw [f2]; exact r1_join _ _ e1
  have hk := elem_kind hel
  unfold readC
  rw [f1, f3, f4, o2, e2, if_neg (by omega), takeP_text hel]
  have hc : Chg.of x.op x.ek (x.a, x.b, x.c, x.d, Lib.join (if x.none = true then [] else [txtV x.vk x.vn x.vt]) [32]) = x := by
    unfold Chg.of
    by_cases h3 : x.op = 3
    · have hn' : x.none = false := by
        cases hx : x.none with
        | false => rfl
        | true => exact absurd (by rw [hx]; simp [h3]) hn
      simp only [h3, hn', if_true, Bool.false_eq_true, if_false, Lib.join_one, parse_txt, hv]
      rw [← h3]; rfl
    · have hn' : x.none = true := by
        cases hx : x.none with
        | true => rfl
        | false => exact absurd (by rw [hx]; simp [h3]) hn
      simp only [Chg.none, decide_eq_true_eq] at hn'
      obtain ⟨h4, h5, h6⟩ := hn'
      simp only [h3, if_false]
      obtain ⟨_, _, _, _, _, _, _, _, _⟩ := x
      simp only at h4 h5 h6
      subst h4 h5 h6
      rfl
  simp only [hc]
  rw [if_pos ⟨h0, trivial⟩]
end Go.Sh
