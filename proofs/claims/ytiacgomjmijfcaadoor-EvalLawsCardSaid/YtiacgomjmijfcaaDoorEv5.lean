/- Own work, over the shadow machine: DSpec5. -/
import Derived.Test.YtiacgomjmijfcaaDoorEv4
set_option linter.all false
namespace Go.Proofs.YtiacgomjmijfcaaDoor
open Go.Sh
set_option maxRecDepth 100000

theorem law_loop (x y : Fin 3) (n : Nat) : ∀ (k : Nat) (_ : 11 - k = n) (l : List GV) (g : Nat) (H : GH) (v out : GV) (K : GExit × St → Prop) (_ : lget l 8 = v) (_ : Elems 8 v (rowL x y)) (_ : lget l 44 = .int .i64 11) (_ : lget l 45 = .int .i64 k)
    (_ : lget l 9 = out) (_ : App H 3 out (gvs ((vals x y).take k))) (_ : H.bt ≤ H.toks.length) (_ : k ≤ 11)
    (_ : ∀ l' g' H' out', lget l' 6 = lget l 6 → lget l' 9 = out' → Elems 3 out' (gvs (vals x y)) → K (.exit 0, ⟨⟨l', g'⟩, H'⟩)),
    optW (erun T (.loop L0_hedgerowlaw22_EvalLaws) ⟨⟨l, g⟩, H⟩) K := by
  induction n with
  | zero =>
    intro k hk l g H v out K h8 hE h44 h45 h9 ha hbt hk11 hK
    have : k = 11 := by omega
    subst this
    rw [run_loop]
    simp [L0_hedgerowlaw22_EvalLaws, h44, h45]
    exact hK _ _ H out (by simp) (by simp [h9]) ha.elems
  | succ n ih =>
    intro k hk l g H v out K h8 hE h44 h45 h9 ha hbt hk11 hK
    have hlt : (k : Int) < 11 := by omega
    obtain ⟨z, hz, hev⟩ := eval_spec x y hE (i := k) (by omega) (H := H)
    have htl : ((vals x y).take k).length ≤ 11 := by rw [List.length_take, vals_len]; omega
    have hw : IntKind.i64.wrap ((k : Int) + 1) = (k : Int) + 1 := wrap_i64' (by omega) (by omega)
    obtain ⟨out', H1, hap, hg⟩ := append_grown (sz := 3) (bytes := 32) (x := .sl 3 [.agg (gc z)] .exact) ha rfl hbt (by simp [room]; omega) (by simp [maxLen]; omega)
    have hnext : (gvs ((vals x y).take k)) ++ [GV.agg (gc z)] = gvs ((vals x y).take (k + 1)) := by
      rw [List.take_add_one, hz]; simp [gvs]
    have hg' := hg.app
    rw [hnext] at hg'
    rw [run_loop, wp_seqK]
    simp [-partOf_agg, L0_hedgerowlaw22_EvalLaws, h8, h9, h44, h45, hlt, hE.ok, hev, gSetAll, hap, ha.ok, hg'.ok, hw]
    refine ih (k + 1) (by omega) _ _ _ v out' K (by simp [h8]) hE (by simp [h44]) (by simp) (by simp) hg' (hg.step.btle hbt) (by omega) ?_
    intro l' g' H' o' q1 q2 q3
    exact hK l' g' H' o' (by rw [q1]; simp) q2 q3

theorem eval_law (a b : Int) (ha : 0 ≤ a) (hb : 0 ≤ b) (H : GH) (hbt : H.bt ≤ H.toks.length) : ∃ H', ecall T f_hedgerowlaw22_EvalLaws [.int .u8 a, .int .u8 b] H = some (.bool true, H') := by
  have key : optW (ecall T f_hedgerowlaw22_EvalLaws [.int .u8 a, .int .u8 b] H) fun r => r.1 = .bool true := by
    rw [ecall_0 T_hedgerowlaw22_EvalLaws rfl (by simp [F_hedgerowlaw22_EvalLaws]), wp_fin1]
    have fin : ∀ x y : Fin 3, ∀ (l' : List GV) (g' : Nat) (H' : GH) (o' : GV) (g0 : Nat), lget l' 6 = .lbox g0 (gc x) → lget l' 9 = o' → Elems 3 o' (gvs (vals x y)) → True := fun _ _ _ _ _ _ _ _ _ _ => trivial
    have ha3 : a.tmod 3 = a % 3 := Int.tmod_eq_emod_of_nonneg ha
    have hb3 : b.tmod 3 = b % 3 := Int.tmod_eq_emod_of_nonneg hb
    have h1 : a % 3 = 0 ∨ a % 3 = 1 ∨ a % 3 = 2 := by omega
    have h2 : b % 3 = 0 ∨ b % 3 = 1 ∨ b % 3 = 2 := by omega
    have i0 : gIx 3 (.int .u8 0) = some 0 := rfl
    have i1 : gIx 3 (.int .u8 1) = some 1 := rfl
    have i2 : gIx 3 (.int .u8 2) = some 2 := rfl
    rcases h1 with h1 | h1 | h1
    · rcases h2 with h2 | h2 | h2
      · simp [F_hedgerowlaw22_EvalLaws, b_hedgerowlaw22_EvalLaws, fixed22, gFill, setPart, gSetAll, gInt_rem, ha3, hb3, h1, h2, i0, i1, i2]
        rw [wp_seqK, wp_blockK]
        refine law_loop 0 0 11 0 rfl _ _ _ (.sl 8 (rowL 0 0) .exact) .nilsl _ (by simp [rowL, ex, gc]) (.sl _ _) (by simp) (by simp) (by simp) .nil hbt (by omega) ?_
        intro l' g' H' out' q6 q9 hE
        simp at q6
        obtain ⟨t, rfl⟩ := hE.is_sl (i := 0) rfl
        simp [gvs, vals, notF, orF, andF, eqF, neF, gc] at q9
        simp [q6, q9, leavesEq, gIx]
      · simp [F_hedgerowlaw22_EvalLaws, b_hedgerowlaw22_EvalLaws, fixed22, gFill, setPart, gSetAll, gInt_rem, ha3, hb3, h1, h2, i0, i1, i2]
        rw [wp_seqK, wp_blockK]
        refine law_loop 0 1 11 0 rfl _ _ _ (.sl 8 (rowL 0 1) .exact) .nilsl _ (by simp [rowL, ex, gc]) (.sl _ _) (by simp) (by simp) (by simp) .nil hbt (by omega) ?_
        intro l' g' H' out' q6 q9 hE
        simp at q6
        obtain ⟨t, rfl⟩ := hE.is_sl (i := 0) rfl
        simp [gvs, vals, notF, orF, andF, eqF, neF, gc] at q9
        simp [q6, q9, leavesEq, gIx]
      · simp [F_hedgerowlaw22_EvalLaws, b_hedgerowlaw22_EvalLaws, fixed22, gFill, setPart, gSetAll, gInt_rem, ha3, hb3, h1, h2, i0, i1, i2]
        rw [wp_seqK, wp_blockK]
        refine law_loop 0 2 11 0 rfl _ _ _ (.sl 8 (rowL 0 2) .exact) .nilsl _ (by simp [rowL, ex, gc]) (.sl _ _) (by simp) (by simp) (by simp) .nil hbt (by omega) ?_
        intro l' g' H' out' q6 q9 hE
        simp at q6
        obtain ⟨t, rfl⟩ := hE.is_sl (i := 0) rfl
        simp [gvs, vals, notF, orF, andF, eqF, neF, gc] at q9
        simp [q6, q9, leavesEq, gIx]
    · rcases h2 with h2 | h2 | h2
      · simp [F_hedgerowlaw22_EvalLaws, b_hedgerowlaw22_EvalLaws, fixed22, gFill, setPart, gSetAll, gInt_rem, ha3, hb3, h1, h2, i0, i1, i2]
        rw [wp_seqK, wp_blockK]
        refine law_loop 1 0 11 0 rfl _ _ _ (.sl 8 (rowL 1 0) .exact) .nilsl _ (by simp [rowL, ex, gc]) (.sl _ _) (by simp) (by simp) (by simp) .nil hbt (by omega) ?_
        intro l' g' H' out' q6 q9 hE
        simp at q6
        obtain ⟨t, rfl⟩ := hE.is_sl (i := 0) rfl
        simp [gvs, vals, notF, orF, andF, eqF, neF, gc] at q9
        simp [q6, q9, leavesEq, gIx]
      · simp [F_hedgerowlaw22_EvalLaws, b_hedgerowlaw22_EvalLaws, fixed22, gFill, setPart, gSetAll, gInt_rem, ha3, hb3, h1, h2, i0, i1, i2]
        rw [wp_seqK, wp_blockK]
        refine law_loop 1 1 11 0 rfl _ _ _ (.sl 8 (rowL 1 1) .exact) .nilsl _ (by simp [rowL, ex, gc]) (.sl _ _) (by simp) (by simp) (by simp) .nil hbt (by omega) ?_
        intro l' g' H' out' q6 q9 hE
        simp at q6
        obtain ⟨t, rfl⟩ := hE.is_sl (i := 0) rfl
        simp [gvs, vals, notF, orF, andF, eqF, neF, gc] at q9
        simp [q6, q9, leavesEq, gIx]
      · simp [F_hedgerowlaw22_EvalLaws, b_hedgerowlaw22_EvalLaws, fixed22, gFill, setPart, gSetAll, gInt_rem, ha3, hb3, h1, h2, i0, i1, i2]
        rw [wp_seqK, wp_blockK]
        refine law_loop 1 2 11 0 rfl _ _ _ (.sl 8 (rowL 1 2) .exact) .nilsl _ (by simp [rowL, ex, gc]) (.sl _ _) (by simp) (by simp) (by simp) .nil hbt (by omega) ?_
        intro l' g' H' out' q6 q9 hE
        simp at q6
        obtain ⟨t, rfl⟩ := hE.is_sl (i := 0) rfl
        simp [gvs, vals, notF, orF, andF, eqF, neF, gc] at q9
        simp [q6, q9, leavesEq, gIx]
    · rcases h2 with h2 | h2 | h2
      · simp [F_hedgerowlaw22_EvalLaws, b_hedgerowlaw22_EvalLaws, fixed22, gFill, setPart, gSetAll, gInt_rem, ha3, hb3, h1, h2, i0, i1, i2]
        rw [wp_seqK, wp_blockK]
        refine law_loop 2 0 11 0 rfl _ _ _ (.sl 8 (rowL 2 0) .exact) .nilsl _ (by simp [rowL, ex, gc]) (.sl _ _) (by simp) (by simp) (by simp) .nil hbt (by omega) ?_
        intro l' g' H' out' q6 q9 hE
        simp at q6
        obtain ⟨t, rfl⟩ := hE.is_sl (i := 0) rfl
        simp [gvs, vals, notF, orF, andF, eqF, neF, gc] at q9
        simp [q6, q9, leavesEq, gIx]
      · simp [F_hedgerowlaw22_EvalLaws, b_hedgerowlaw22_EvalLaws, fixed22, gFill, setPart, gSetAll, gInt_rem, ha3, hb3, h1, h2, i0, i1, i2]
        rw [wp_seqK, wp_blockK]
        refine law_loop 2 1 11 0 rfl _ _ _ (.sl 8 (rowL 2 1) .exact) .nilsl _ (by simp [rowL, ex, gc]) (.sl _ _) (by simp) (by simp) (by simp) .nil hbt (by omega) ?_
        intro l' g' H' out' q6 q9 hE
        simp at q6
        obtain ⟨t, rfl⟩ := hE.is_sl (i := 0) rfl
        simp [gvs, vals, notF, orF, andF, eqF, neF, gc] at q9
        simp [q6, q9, leavesEq, gIx]
      · simp [F_hedgerowlaw22_EvalLaws, b_hedgerowlaw22_EvalLaws, fixed22, gFill, setPart, gSetAll, gInt_rem, ha3, hb3, h1, h2, i0, i1, i2]
        rw [wp_seqK, wp_blockK]
        refine law_loop 2 2 11 0 rfl _ _ _ (.sl 8 (rowL 2 2) .exact) .nilsl _ (by simp [rowL, ex, gc]) (.sl _ _) (by simp) (by simp) (by simp) .nil hbt (by omega) ?_
        intro l' g' H' out' q6 q9 hE
        simp at q6
        obtain ⟨t, rfl⟩ := hE.is_sl (i := 0) rfl
        simp [gvs, vals, notF, orF, andF, eqF, neF, gc] at q9
        simp [q6, q9, leavesEq, gIx]
  obtain ⟨⟨r, H'⟩, e1, e2⟩ := key
  simp only at e2
  subst e2
  exact ⟨H', e1⟩

end Go.Proofs.YtiacgomjmijfcaaDoor
