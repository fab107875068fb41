/- Own work, over the shadow machine: JSpec17. -/
import Derived.Test.YtalhcaadpgadkaaDoorSp16
set_option linter.all false
namespace Go.Proofs.YtalhcaadpgadkaaDoor
open Go.Sh
set_option maxRecDepth 100000

/-! ## The same steps -/

theorem same_in (x : Stp) (v w : GV) (hv : Elems 9 v (x.chs.map chgG)) (hw : Elems 9 w (x.chs.map chgG)) (hall : x.chs.length ≤ 100000) (a b c d : Nat) (xs : List Chg) : ∀ (j : Nat) (_ : x.chs.drop j = xs) (l : List GV) (g : Nat) (H : GH) (K : GExit × St → Prop)
    (_ : lget l 6 = .lbox a (stpC x v)) (_ : lget l 7 = .lbox b (stpC x w)) (_ : lget l 85 = .int .i64 x.chs.length) (_ : lget l 86 = .int .i64 j)
    (_ : ∀ (l' : List GV), (∀ t, t < 6 → lget l' t = lget l t) → lget l' 15 = lget l 15 → lget l' 16 = lget l 16 → K (.exit 2, ⟨⟨l', g⟩, H⟩)),
    optW (erun T (.loop L0_hedgerowref29_Same) ⟨⟨l, g⟩, H⟩) K := by
  induction xs with
  | nil =>
    intro j hd l g H K h6 h7 h85 h86 he
    have hle : x.chs.length ≤ j := by simpa using hd
    have hge : ¬ ((j : Int) < x.chs.length) := by omega
    have hge' : ¬ (j < x.chs.length) := by omega
    rw [run_loop]
    simp [L0_hedgerowref29_Same, h85, h86, hge, hge']
    refine he _ (fun t ht => ?_) (by simp) (by simp)
    simp [show t ≠ 87 by omega]
  | cons y xs ih =>
    intro j hd l g H K h6 h7 h85 h86 he
    have hj : j < x.chs.length := by
      rcases Nat.lt_or_ge j x.chs.length with h1 | h1
      · exact h1
      · rw [List.drop_eq_nil_of_le h1] at hd; cases hd
    have hgv : x.chs[j]? = some y := by
      have := congrArg (·[0]?) hd
      simpa using this
    have hd' : x.chs.drop (j + 1) = xs := by
      have := congrArg List.tail hd
      simpa using this
    have hgd : ∀ h : j < x.chs.length, x.chs[j]'h = y := fun h => by rw [List.getElem?_eq_getElem h] at hgv; exact Option.some.inj hgv
    have hgm : (x.chs.map chgG)[j]? = some (chgG y) := by simp [hgv]
    obtain ⟨t, rfl⟩ := hv.is_sl hgm
    obtain ⟨t', rfl⟩ := hw.is_sl hgm
    have hlt : (j : Int) < x.chs.length := by omega
    have hix : gIx x.chs.length (.int .i64 (j : Int)) = some j := by simp only [gIx]; rw [if_pos (by omega)]; simp
    have hwr : IntKind.i64.wrap ((j : Int) + 1) = (j : Int) + 1 := wrap_i64' (by omega) (by omega)
    have hb := chg_leaves y
    have c7 : ∀ u, (stpC x u)[7]? = some u := fun _ => rfl
    simp only [chgC] at hb
    rw [run_loop, wp_seqK]
    simp [L0_hedgerowref29_Same, h6, h7, h85, h86, hlt, hj, c7, hix, hgv, hgd, chgG, chgC, hb, hwr]
    refine ih (j + 1) hd' _ g H K ?_ ?_ ?_ ?_ ?_
    · simp [h6]
    · simp [h7]
    · simp [h85]
    · simp
    · intro l' f1 f2 f3
      refine he l' (fun t ht => ?_) ?_ ?_
      · rw [f1 t ht]
        simp [show t ≠ 8 by omega, show t ≠ 86 by omega, show t ≠ 87 by omega, show t ≠ 88 by omega, show t ≠ 89 by omega, show t ≠ 90 by omega, show t ≠ 91 by omega, show t ≠ 92 by omega, show t ≠ 93 by omega, show t ≠ 94 by omega, show t ≠ 95 by omega, show t ≠ 96 by omega, show t ≠ 97 by omega, show t ≠ 98 by omega, show t ≠ 99 by omega, show t ≠ 100 by omega]
      · rw [f2]; simp
      · rw [f3]; simp

theorem same_out (A B : List SP) (hAB : A.map (·.1) = B.map (·.1)) (hA : ∀ p ∈ A, SOk p) (hB : ∀ p ∈ B, SOk p) (hsz : ∀ p ∈ A, p.1.chs.length ≤ 100000) (hall : A.length ≤ 100000) (u v : GV) (hu : Elems 8 u (A.map spG)) (hv : Elems 8 v (B.map spG)) (xs : List SP) : ∀ (j : Nat) (_ : A.drop j = xs) (l : List GV) (g : Nat) (H : GH) (K : GExit × St → Prop)
    (_ : lget l 0 = u) (_ : lget l 1 = v) (_ : lget l 15 = .int .i64 A.length) (_ : lget l 16 = .int .i64 j)
    (_ : ∀ (l' : List GV) (g' : Nat), K (.exit 0, ⟨⟨l', g'⟩, H⟩)),
    optW (erun T (.loop L1_hedgerowref29_Same) ⟨⟨l, g⟩, H⟩) K := by
  induction xs with
  | nil =>
    intro j hd l g H K h0 h1 h15 h16 he
    have hle : A.length ≤ j := by simpa using hd
    have hge : ¬ ((j : Int) < A.length) := by omega
    have hge' : ¬ (j < A.length) := by omega
    rw [run_loop]
    simp [L1_hedgerowref29_Same, h15, h16, hge, hge']
    exact he _ _
  | cons p xs ih =>
    intro j hd l g H K h0 h1 h15 h16 he
    have hj : j < A.length := by
      rcases Nat.lt_or_ge j A.length with h1 | h1
      · exact h1
      · rw [List.drop_eq_nil_of_le h1] at hd; cases hd
    have hBl : B.length = A.length := by
      have := congrArg List.length hAB
      simpa using this.symm
    have hgv : A[j]? = some p := by
      have := congrArg (·[0]?) hd
      simpa using this
    have hd' : A.drop (j + 1) = xs := by
      have := congrArg List.tail hd
      simpa using this
    obtain ⟨q, hqv⟩ : ∃ q, B[j]? = some q := ⟨B[j]'(by omega), List.getElem?_eq_getElem (by omega)⟩
    have hpq : p.1 = q.1 := by
      have := congrArg (·[j]?) hAB
      simpa [hgv, hqv] using this
    have hgd : ∀ h : j < A.length, A[j]'h = p := fun h => by rw [List.getElem?_eq_getElem h] at hgv; exact Option.some.inj hgv
    have hqd : ∀ h : j < B.length, B[j]'h = q := fun h => by rw [List.getElem?_eq_getElem h] at hqv; exact Option.some.inj hqv
    have hgm : (A.map spG)[j]? = some (spG p) := by simp [hgv]
    have hqm : (B.map spG)[j]? = some (spG q) := by simp [hqv]
    obtain ⟨t, hut⟩ := hu.is_sl hgm
    obtain ⟨t', hvt⟩ := hv.is_sl hqm
    have hpo := hA p (List.mem_of_getElem? hgv)
    have hqo := hB q (List.mem_of_getElem? hqv)
    have hps := hsz p (List.mem_of_getElem? hgv)
    obtain ⟨x, a⟩ := p
    obtain ⟨x', b⟩ := q
    simp only at hpq
    subst hpq
    have ha := hpo.el
    have hb := hqo.el
    simp only at ha hb hps
    have hal := ha.len
    have hbl := hb.len
    have hau := elemsUnbox ha
    have hbu := elemsUnbox hb
    have hao := ha.one
    have hbo := hb.one
    have hac := ha.cells
    have hbc := hb.cells
    have hak := ha.ok
    have hbk := hb.ok
    have hlt : (j : Int) < A.length := by omega
    have hjB : j < B.length := by omega
    have hix : gIx A.length (.int .i64 (j : Int)) = some j := by simp only [gIx]; rw [if_pos (by omega)]; simp
    have hixB : gIx B.length (.int .i64 (j : Int)) = some j := by simp only [gIx]; rw [if_pos (by omega)]; simp
    have hwr : IntKind.i64.wrap ((j : Int) + 1) = (j : Int) + 1 := wrap_i64' (by omega) (by omega)
    rw [hut] at h0
    rw [hvt] at h1
    rw [run_loop, wp_seqK]
    simp [L1_hedgerowref29_Same, h0, h1, h15, h16, hlt, hj, hjB, hix, hixB, hgv, hgd, hqv, hqd, spG, stpG, stpC, setPart, hao, hbo, hac, hbc, hak, hbk, hau, hbu, hal, hbl]
    rw [wp_seqK, wp_blockK, wp_blockK]
    refine same_in x a b ha hb hps (g + 8) (g + 9) 0 0 x.chs 0 rfl _ _ _ _ ?_ ?_ ?_ ?_ ?_
    · simp [stpC]
    · simp [stpC]
    · simp
    · simp
    · intro l' f1 f2 f3
      have g0 := f1 0 (by omega)
      have g1 := f1 1 (by omega)
      simp [h0, h1] at g0 g1
      simp at f2 f3
      simp [f3, h16, hwr]
      refine ih (j + 1) hd' _ _ H K ?_ ?_ ?_ ?_ he
      · simp [g0, hut]
      · simp [g1, hvt]
      · simp [f2, h15]
      · simp

theorem Same_ok (A B : List SP) (hAB : A.map (·.1) = B.map (·.1)) (hA : ∀ p ∈ A, SOk p) (hB : ∀ p ∈ B, SOk p) (hsz : ∀ p ∈ A, p.1.chs.length ≤ 100000) (hall : A.length ≤ 100000) (u v : GV) (hu : Elems 8 u (A.map spG)) (hv : Elems 8 v (B.map spG)) (H : GH) : ecall T f_hedgerowref29_Same [u, v] H = some (.bool true, H) := by
  have hBl : B.length = A.length := by
    have := congrArg List.length hAB
    simpa using this.symm
  have hul := hu.len
  have hvl := hv.len
  have huu := elemsUnbox hu
  have hvu := elemsUnbox hv
  apply optW.eq
  rw [ecall_0 T_hedgerowref29_Same rfl (by simp [F_hedgerowref29_Same]), wp_fin1]
  simp only [F_hedgerowref29_Same, b_hedgerowref29_Same]
  simp [hul, hvl, huu, hvu, hBl]
  rw [wp_seqK, wp_blockK]
  refine same_out A B hAB hA hB hsz hall u v hu hv A 0 rfl _ _ _ _ ?_ ?_ ?_ ?_ ?_
  · simp [huu]
  · simp [hvu]
  · simp
  · simp
  · intro l' g'; simp
end Go.Proofs.YtalhcaadpgadkaaDoor
