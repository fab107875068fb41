/- Own work, over the shadow machine: JLaw. -/
import Derived.Test.YtalhcaadpgadkaaDoorSp19
set_option linter.all false
namespace Go.Proofs.YtalhcaadpgadkaaDoor
open Go.Sh
set_option maxRecDepth 100000

/-! ## ScriptJoins -/

theorem txtL_len {L : List SP} (hok : ∀ p ∈ L, SOk p) (hl : L.length ≤ 60) : (txtL L).length ≤ 60 * 20010 := by
  unfold txtL
  split
  · rename_i h
    have h1 := textL_size (allOk_good h hok)
    rw [List.length_map] at h1
    have : L.length * 20010 ≤ 60 * 20010 := Nat.mul_le_mul hl (Nat.le_refl _)
    omega
  · simp

theorem joins_ok (L M : List SP) (hL : ∀ p ∈ L, SBig p) (hM : ∀ p ∈ M, SBig p) (hl : L.length ≤ 9223372036854775807) (hm : M.length ≤ 9223372036854775807) (u v : GV) (hu : Elems 8 u (L.map spG)) (hv : Elems 8 v (M.map spG)) (H : GH) (hbt : H.bt ≤ H.toks.length) :
    ∃ H', ecall T f_hedgerowlaw29_ScriptJoins [u, v] H = some (.bool true, H') := by
  obtain ⟨b1, f1, g1⟩ := few_ok L hL hl u hu H
  obtain ⟨b2, f2, g2⟩ := few_ok M hM hm v hv H
  have huu := elemsUnbox hu
  have hvu := elemsUnbox hv
  have huo := hu.ok
  have hvo := hv.ok
  have key : optW (ecall T f_hedgerowlaw29_ScriptJoins [u, v] H) fun r => ∃ H', r = (.bool true, H') := by
    rw [ecall_0 T_hedgerowlaw29_ScriptJoins rfl (by simp [F_hedgerowlaw29_ScriptJoins]), wp_fin1]
    simp only [F_hedgerowlaw29_ScriptJoins, b_hedgerowlaw29_ScriptJoins]
    cases b1 with
    | false => simp [fixed_ok, f1, huu, huo]
    | true =>
      cases b2 with
      | false => simp [fixed_ok, f1, f2, huu, hvu, huo, hvo]
      | true =>
        obtain ⟨l30, lok⟩ := g1 rfl
        obtain ⟨m30, mok⟩ := g2 rfl
        have lok' := fun p hp => (lok p hp).1
        have mok' := fun p hp => (mok p hp).1
        have t1 := script_Text L (by omega) lok' u hu H
        have t2 := script_Text M (by omega) mok' v hv H
        obtain ⟨o1, H1, a1, A1, s1, _⟩ := append_ok (H := H) (ty := 33) (sz := 8) (bytes := 80) (s := .sl 8 [] .exact) (x := u) (xs := []) (ys := L.map spG) (.exact []) hu.news hbt (by simp [room]; omega) (by simp [maxLen]; omega)
        have hbt1 := s1.btle hbt
        simp only [List.nil_append] at A1
        obtain ⟨o2, H2, a2, A2, s2, _⟩ := append_ok (H := H1) (ty := 33) (sz := 8) (bytes := 80) (s := o1) (x := v) (xs := L.map spG) (ys := M.map spG) A1 hv.news hbt1 (by simp [room]; omega) (by simp [maxLen]; omega)
        rw [← List.map_append] at A2
        have aok : ∀ p ∈ L ++ M, SOk p := by
          intro p hp
          rcases List.mem_append.1 hp with hp | hp
          · exact lok' p hp
          · exact mok' p hp
        have t3 := script_Text (L ++ M) (by simp; omega) aok o2 A2.elems H2
        have u1 := appUnbox A1
        have k1 := A1.ok
        have u2 := appUnbox A2
        have k2 := A2.ok
        have hall : allOk (L ++ M) = (allOk L && allOk M) := by simp [allOk]
        have l1 := txtL_len lok' (by omega)
        have l2 := txtL_len mok' (by omega)
        cases hx : allOk L with
        | false =>
          rw [hx] at t1 hall
          simp only [Bool.false_and] at hall
          rw [hall] at t3
          have hc : txtL (L ++ M) = [] := by simp [txtL, hall]
          rw [hc] at t3
          rw [mkB_empty] at t3
          simp [fixed_ok, f1, f2, huu, hvu, huo, hvo, t1, t2, gSetAll, a1, u1, k1, a2, u2, k2, t3]
        | true =>
          cases hy : allOk M with
          | false =>
            rw [hx] at t1
            rw [hy] at t2
            rw [hx, hy] at hall
            simp only [Bool.true_and] at hall
            rw [hall] at t3
            have hc : txtL (L ++ M) = [] := by simp [txtL, hall]
            rw [hc] at t3
            rw [mkB_empty] at t3
            simp [fixed_ok, f1, f2, huu, hvu, huo, hvo, t1, t2, gSetAll, a1, u1, k1, a2, u2, k2, t3]
          | true =>
            rw [hx] at t1
            rw [hy] at t2
            rw [hx, hy] at hall
            simp only [Bool.true_and] at hall
            have hcat : gStr .add (mkB (txtL L)) (mkB (txtL M)) = some (.str (mkB (txtL L ++ txtL M))) := catB (by omega)
            have e1 : txtL L = textL (L.map (·.1)) := by simp [txtL, hx]
            have e2 : txtL M = textL (M.map (·.1)) := by simp [txtL, hy]
            have e3 : txtL (L ++ M) = txtL L ++ txtL M := by
              rw [e1, e2, ← textL_append, ← List.map_append]; simp [txtL, hall]
            rw [hall, e3] at t3
            have hgood := allOk_good hall aok
            obtain ⟨r, hrd, N, w, n1, n2, n3, rfl⟩ := read_back hgood (by simp; omega) H2
            have e4 : textL ((L ++ M).map (·.1)) = txtL L ++ txtL M := by rw [List.map_append, textL_append, e1, e2]
            rw [e4] at hrd
            have hsame := Same_ok N (L ++ M) n1 n2 aok (fun p hp => by
              have : p.1 ∈ N.map (·.1) := List.mem_map_of_mem hp
              rw [n1] at this
              obtain ⟨q, hq, hqe⟩ := List.mem_map.1 this
              rw [← hqe]
              exact chs_small (List.all_eq_true.1 hall q hq)) (by
              have := congrArg List.length n1
              simp at this
              omega) w o2 n3 A2.elems H2
            have wu := elemsUnbox n3
            have wo := n3.ok
            simp [fixed_ok, f1, f2, huu, hvu, huo, hvo, t1, t2, gSetAll, a1, u1, k1, a2, u2, k2, t3, hcat, hrd, hsame, wu, wo]
  obtain ⟨r, h, H', rfl⟩ := key
  exact ⟨H', h⟩
end Go.Proofs.YtalhcaadpgadkaaDoor
