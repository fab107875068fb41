/- Own work, over the shadow machine: JSpec2. -/
import Derived.Test.YtalhcaadpgadkaaDoorSp1
set_option linter.all false
namespace Go.Proofs.YtalhcaadpgadkaaDoor
open Go.Sh
set_option maxRecDepth 100000

/-! ## A change's line -/

theorem value_Name' (a : List UInt8) (ha : a.length ≤ 1000000) (H : GH) : ecall T f_value_Name [.str (mkB a)] H = some (.bool (nameL a), H) := by
  have := value_Name (mkB a) (by rw [mkB_size]; omega) H
  rwa [mkB_data] at this

theorem nms_loop (all : List (List UInt8)) (t : Tag) (hall : all.length ≤ 1000) (hsz : ∀ w ∈ all, w.length ≤ 1000000) (xs : List (List UInt8)) : ∀ (j : Nat) (_ : all.drop j = xs) (l : List GV) (g : Nat) (H : GH) (K : GExit × St → Prop)
    (_ : lget l 5 = rowG all t) (_ : lget l 6 = .int .i64 all.length) (_ : lget l 7 = .int .i64 j)
    (_ : ∀ (l' : List GV), xs.all nameL = true → K (.exit 0, ⟨⟨l', g⟩, H⟩))
    (_ : ∀ (l' : List GV), lget l' 2 = .bool false → xs.all nameL = false → K (.ret, ⟨⟨l', g⟩, H⟩)),
    optW (erun T (.loop L0_value_names) ⟨⟨l, g⟩, H⟩) K := by
  induction xs with
  | nil =>
    intro j hd l g H K h5 h6 h7 he hr
    have hle : all.length ≤ j := by simpa using hd
    have hge : ¬ ((j : Int) < all.length) := by omega
    have hge' : ¬ (j < all.length) := by omega
    rw [run_loop]
    simp [L0_value_names, h6, h7, hge, hge']
    exact he _ rfl
  | cons x xs ih =>
    intro j hd l g H K h5 h6 h7 he hr
    have hj : j < all.length := by
      rcases Nat.lt_or_ge j all.length with h1 | h1
      · exact h1
      · rw [List.drop_eq_nil_of_le h1] at hd; cases hd
    have hgv : all[j]? = some x := by
      have := congrArg (·[0]?) hd
      simpa using this
    have hd' : all.drop (j + 1) = xs := by
      have := congrArg List.tail hd
      simpa using this
    have hgd : ∀ h : j < all.length, all[j]'h = x := fun h => by rw [List.getElem?_eq_getElem h] at hgv; exact Option.some.inj hgv
    have hlt : (j : Int) < all.length := by omega
    have hix : gIx all.length (.int .i64 (j : Int)) = some j := by simp only [gIx]; rw [if_pos (by omega)]; simp
    have hw : IntKind.i64.wrap ((j : Int) + 1) = (j : Int) + 1 := wrap_i64' (by omega) (by omega)
    have hn := value_Name' x (hsz x (List.mem_of_getElem? hgv)) H
    simp only [rowG] at h5
    cases hx : nameL x <;> rw [hx] at hn
    · rw [run_loop, wp_seqK]
      simp [L0_value_names, h5, h6, h7, hlt, hj, hix, hgv, hgd, strG, hn]
      exact hr _ (by simp) (by simp [hx])
    · rw [run_loop, wp_seqK]
      simp [L0_value_names, h5, h6, h7, hlt, hj, hix, hgv, hgd, strG, hn, hw]
      refine ih (j + 1) hd' _ _ H K ?_ ?_ ?_ ?_ ?_
      · simp [h5, rowG]
      · simp [h6]
      · simp
      · intro l' e; exact he l' (by simpa [hx] using e)
      · intro l' e2 e; exact hr l' e2 (by simpa [hx] using e)

theorem nms_ok (L : List (List UInt8)) (t : Tag) (hL : L.length ≤ 1000) (hsz : ∀ w ∈ L, w.length ≤ 1000000) (H : GH) : ecall T f_value_names [rowG L t] H = some (.bool (L.all nameL), H) := by
  apply optW.eq
  rw [ecall_0 T_value_names rfl (by simp [F_value_names]), wp_fin1]
  simp only [F_value_names, b_value_names, rowG]
  simp
  rw [wp_seqK, wp_blockK]
  refine nms_loop L t hL hsz L 0 rfl _ _ _ _ ?_ ?_ ?_ ?_ ?_
  · simp [rowG]
  · simp
  · simp
  · intro l' e
    simp
    simpa using e
  · intro l' e2 e
    simp [e2]
    simpa using e

theorem join0 : ∀ (L : List (List UInt8)), Lib.join L [] = L.flatten
  | [] => rfl
  | [x] => by simp [Lib.join_one]
  | x :: y :: L => by
    have := join0 (y :: L)
    simp only [Lib.join, List.intercalate, List.intersperse, List.flatten_cons, List.nil_append] at this ⊢
    rw [this]

theorem empty_ok (L : List (List UInt8)) (t : Tag) (h1 : L.length ≤ 1000) (h2 : L.flatten.length ≤ 100000000) (H : GH) : ecall T f_value_empty [rowG L t] H = some (.bool (decide (L.flatten = [])), H) := by
  have hj := join_ok (rowG L t) L (.sl _ _) [] (by omega) (by rw [join0]; exact h2) H
  rw [join0] at hj
  have e : mkB [] = ⟨#[]⟩ := rfl
  rw [e] at hj
  apply optW.eq
  rw [ecall_0 T_value_empty rfl (by simp [F_value_empty]), wp_fin1]
  simp only [rowG] at hj ⊢
  simp [F_value_empty, b_value_empty, hj]

theorem nms1 (a : List UInt8) (ha : a.length ≤ 100000) (H : GH) : ecall T f_value_names [.sl 1 [.str (mkB a)] .exact] H = some (.bool (nameL a), H) := by
  have := nms_ok [a] .exact (by simp) (by simp; omega) H
  simpa [rowG, strG] using this
theorem nms2 (a b : List UInt8) (ha : a.length ≤ 100000) (hb : b.length ≤ 100000) (H : GH) : ecall T f_value_names [.sl 1 [.str (mkB a), .str (mkB b)] .exact] H = some (.bool (nameL a && nameL b), H) := by
  have := nms_ok [a, b] .exact (by simp) (by simp; omega) H
  simpa [rowG, strG] using this
theorem nms3 (a b c : List UInt8) (ha : a.length ≤ 100000) (hb : b.length ≤ 100000) (hc : c.length ≤ 100000) (H : GH) : ecall T f_value_names [.sl 1 [.str (mkB a), .str (mkB b), .str (mkB c)] .exact] H = some (.bool (nameL a && (nameL b && nameL c)), H) := by
  have := nms_ok [a, b, c] .exact (by simp) (by simp; omega) H
  simpa [rowG, strG] using this
theorem nms4 (a b c d : List UInt8) (ha : a.length ≤ 100000) (hb : b.length ≤ 100000) (hc : c.length ≤ 100000) (hd : d.length ≤ 100000) (H : GH) : ecall T f_value_names [.sl 1 [.str (mkB a), .str (mkB b), .str (mkB c), .str (mkB d)] .exact] H = some (.bool (nameL a && (nameL b && (nameL c && nameL d))), H) := by
  have := nms_ok [a, b, c, d] .exact (by simp) (by simp; omega) H
  simpa [rowG, strG] using this
theorem emp1 (a : List UInt8) (ha : a.length ≤ 100000) (H : GH) : ecall T f_value_empty [.sl 1 [.str (mkB a)] .exact] H = some (.bool (decide (a = [])), H) := by
  have := empty_ok [a] .exact (by simp) (by simp; omega) H
  simpa [rowG, strG] using this
theorem emp2 (a b : List UInt8) (ha : a.length ≤ 100000) (hb : b.length ≤ 100000) (H : GH) : ecall T f_value_empty [.sl 1 [.str (mkB a), .str (mkB b)] .exact] H = some (.bool (decide (a = [] ∧ b = [])), H) := by
  have := empty_ok [a, b] .exact (by simp) (by simp; omega) H
  simpa [rowG, strG] using this
theorem emp3 (a b c : List UInt8) (ha : a.length ≤ 100000) (hb : b.length ≤ 100000) (hc : c.length ≤ 100000) (H : GH) : ecall T f_value_empty [.sl 1 [.str (mkB a), .str (mkB b), .str (mkB c)] .exact] H = some (.bool (decide (a = [] ∧ b = [] ∧ c = [])), H) := by
  have := empty_ok [a, b, c] .exact (by simp) (by simp; omega) H
  simpa [rowG, strG] using this

theorem value_Elem (k : Int) (a b c d : List UInt8) (ha : a.length ≤ 100000) (hb : b.length ≤ 100000) (hc : c.length ≤ 100000) (hd : d.length ≤ 100000) (H : GH) :
    ecall T f_value_Elem [.agg [.int .i64 k, .str (mkB a), .str (mkB b), .str (mkB c), .str (mkB d)]] H = some (.bool (elemV k a b c d), H) := by
  apply optW.eq
  rw [ecall_0 T_value_Elem rfl (by simp [F_value_Elem]), wp_fin1]
  by_cases h1 : k = 1
  · have n1 := nms1 a ha H
    have m1 := emp3 b c d hb hc hd H
    cases hx : nameL a <;> rw [hx] at n1
    · simp [F_value_Elem, b_value_Elem, h1, n1, elemV, hx, gSetAll]
    · simp [F_value_Elem, b_value_Elem, h1, n1, m1, elemV, hx, gSetAll]
  · by_cases h24 : k = 2 ∨ k = 4
    · have n1 := nms2 a d ha hd H
      have m1 := emp2 b c hb hc H
      rcases h24 with h2 | h2
      · cases hx : (nameL a && nameL d) <;> rw [hx] at n1
        · simp [F_value_Elem, b_value_Elem, h2, n1, elemV, hx, gSetAll]
        · simp [F_value_Elem, b_value_Elem, h2, n1, m1, elemV, hx, gSetAll]
      · cases hx : (nameL a && nameL d) <;> rw [hx] at n1
        · simp [F_value_Elem, b_value_Elem, h2, n1, elemV, hx, gSetAll]
        · simp [F_value_Elem, b_value_Elem, h2, n1, m1, elemV, hx, gSetAll]
    · have h2 : ¬ k = 2 := fun h => h24 (.inl h)
      have h4 : ¬ k = 4 := fun h => h24 (.inr h)
      by_cases h3 : k = 3
      · have n1 := nms3 a b c ha hb hc H
        have m1 := emp1 d hd H
        rw [← Bool.and_assoc] at n1
        cases hx : (nameL a && nameL b && nameL c) <;> rw [hx] at n1
        · simp [F_value_Elem, b_value_Elem, h3, n1, elemV, hx, gSetAll]
        · simp [F_value_Elem, b_value_Elem, h3, n1, m1, elemV, hx, gSetAll]
      · by_cases h5 : k = 5
        · have n1 := nms4 a b c d ha hb hc hd H
          simp [F_value_Elem, b_value_Elem, h5, n1, elemV, gSetAll, Bool.and_assoc]
        · simp [F_value_Elem, b_value_Elem, h1, h2, h3, h4, h5, elemV]
end Go.Proofs.YtalhcaadpgadkaaDoor
