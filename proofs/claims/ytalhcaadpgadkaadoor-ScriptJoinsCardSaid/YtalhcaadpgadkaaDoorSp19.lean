/- Own work, over the shadow machine: JSpec19. -/
import Derived.Test.YtalhcaadpgadkaaDoorSp18
set_option linter.all false
namespace Go.Proofs.YtalhcaadpgadkaaDoor
open Go.Sh
set_option maxRecDepth 100000

/-! ## A text's lines -/

theorem shortL_lines : ∀ (ls : List (List UInt8)), (∀ l ∈ ls, (10 : UInt8) ∉ l ∧ l.length ≤ 1000) → shortL (ls.flatMap (fun l => l ++ [10]))
  | [], _ => by
    intro p q h
    have : q = [] := by
      have := h.symm
      simp at this
      exact this.2
    rw [this]
    rw [cut_miss 10 [] (by simp)]; simp
  | l :: ls, h => by
    have ih := shortL_lines ls (fun x hx => h x (by simp [hx]))
    obtain ⟨h10, hl⟩ := h l (by simp)
    intro p q e
    rw [List.flatMap_cons] at e
    rcases List.append_eq_append_iff.1 e with ⟨a, h1, h2⟩ | ⟨c, h1, h2⟩
    · exact ih a q h2
    · cases hc : c.reverse with
      | nil =>
        have hc0 : c = [] := by simpa using hc
        rw [hc0, List.nil_append] at h2
        rw [h2]; exact ih [] _ rfl
      | cons z cs =>
        have hcz : c = cs.reverse ++ [z] := by
          have := congrArg List.reverse hc
          simpa using this
        rw [hcz, ← List.append_assoc] at h1
        have h3 := List.append_inj_right' h1 rfl
        have h4 := List.append_inj_left' h1 rfl
        have hz : z = 10 := by simpa using h3.symm
        rw [h2, hcz, hz]
        have e2 : cs.reverse ++ [10] ++ ls.flatMap (fun l => l ++ [10]) = cs.reverse ++ 10 :: ls.flatMap (fun l => l ++ [10]) := by simp
        rw [e2, cut_hit 10 cs.reverse _ (fun hm => h10 (by rw [h4]; exact List.mem_append.2 (.inr hm)))]
        simp only
        have := congrArg List.length h4
        simp only [List.length_append] at this
        omega

/-- A step that may be told. -/
def Good (x : Stp) : Prop := x.okB = true ∧ SFit x

theorem lines_good {x : Stp} (h : Good x) : ∀ l ∈ x.lines, (10 : UInt8) ∉ l ∧ l.length ≤ 1000 := by
  obtain ⟨h, hf⟩ := h
  simp only [Stp.okB, Bool.and_eq_true, decide_eq_true_eq] at h
  obtain ⟨hk, hp, hn, hc⟩ := h
  have hch : x.chs.length ≤ 64 := by
    simp only [Stp.plainB, Bool.and_eq_true, decide_eq_true_eq] at hp
    rcases hp.2.2 with h | h
    · exact h.2
    · omega
  intro l hl
  simp only [Stp.lines, List.mem_cons, List.mem_map] at hl
  rcases hl with rfl | ⟨c, hc', rfl⟩
  · have := (words_len x hf hk (by omega)).2
    exact ⟨words10 x hk, by omega⟩
  · have := chg_text10 (List.all_eq_true.1 hc c hc')
    exact ⟨this.1, by omega⟩

theorem textL_lines : ∀ xs : List Stp, textL xs = (xs.flatMap Stp.lines).flatMap (fun l => l ++ [10])
  | [] => rfl
  | x :: xs => by
    have ih := textL_lines xs
    have e : textL (x :: xs) = x.text ++ textL xs := by simp [textL]
    rw [e, ih, List.flatMap_cons, List.flatMap_append]
    congr 1
    exact join_end 10 x.lines (by simp [Stp.lines])

theorem textL_short {xs : List Stp} (h : ∀ x ∈ xs, Good x) : shortL (textL xs) := by
  rw [textL_lines]
  apply shortL_lines
  intro l hl
  obtain ⟨x, hx, hl⟩ := List.mem_flatMap.1 hl
  exact lines_good (h x hx) l hl

theorem textL_size : ∀ {xs : List Stp}, (∀ x ∈ xs, Good x) → (textL xs).length ≤ xs.length * 20010
  | [], _ => by simp [textL]
  | x :: xs, h => by
    have ih := textL_size (xs := xs) (fun y hy => h y (by simp [hy]))
    obtain ⟨h1, h2⟩ := h x (by simp)
    have := text_len x h1 h2
    have e : textL (x :: xs) = x.text ++ textL xs := by simp [textL]
    rw [e, List.length_append, List.length_cons, Nat.add_mul]
    omega

theorem textL_append (a b : List Stp) : textL (a ++ b) = textL a ++ textL b := by simp [textL]

/-- A script's text is read as it was. -/
theorem read_back {xs : List Stp} (h : ∀ x ∈ xs, Good x) (hl : xs.length ≤ 190) (H : GH) : optW (ecall T f_script_Read [.str (mkB (textL xs))] H) fun r => ∃ (L : List SP) (v : GV), L.map (·.1) = xs ∧ (∀ p ∈ L, SOk p) ∧ Elems 8 v (L.map spG) ∧ r = (.tup [v, .int .i64 0], H) := by
  have hgood : ∀ y ∈ xs, y.okB = true ∧ 0 ≤ y.by_ ∧ y.by_ ≤ 255 := fun y hy => ⟨(h y hy).1, (h y hy).2.b1, (h y hy).2.b2⟩
  have hrb := readL_text xs hgood
  have hsz := textL_size h
  have hbound : xs.length * 20010 ≤ 190 * 20010 := Nat.mul_le_mul hl (Nat.le_refl _)
  have hG : (readG ((textL xs).length + 1) (textL xs) false []).1.length ≤ 1000 := by
    rw [readG_text xs _ [] hgood (by have := textL_len xs; omega)]
    simp; omega
  refine (script_Read (textL xs) (textL_short h) (by omega) hG H).mono fun r hr => ?_
  rcases hr with ⟨h1, _⟩ | ⟨L, v, h1, h2, h3, h4⟩
  · rw [hrb] at h1; cases h1
  · rw [hrb] at h1
    exact ⟨L, v, (Option.some.inj h1).symm, h2, h3, h4⟩

theorem allOk_good {L : List SP} (h : allOk L = true) (hok : ∀ p ∈ L, SOk p) : ∀ x ∈ L.map (·.1), Good x := by
  intro x hx
  obtain ⟨p, hp, rfl⟩ := List.mem_map.1 hx
  exact ⟨List.all_eq_true.1 h p hp, (hok p hp).fit⟩

theorem chs_small {p : SP} (h : p.1.okB = true) : p.1.chs.length ≤ 100000 := by
  simp only [Stp.okB, Bool.and_eq_true, decide_eq_true_eq] at h
  have hp := h.2.1
  simp only [Stp.plainB, Bool.and_eq_true, decide_eq_true_eq] at hp
  rcases hp.2.2 with h | h <;> omega
end Go.Proofs.YtalhcaadpgadkaaDoor
