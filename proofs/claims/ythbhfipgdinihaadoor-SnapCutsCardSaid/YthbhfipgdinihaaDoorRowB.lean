/- Own work: the shadow machine and what it shows, part RowB. -/
import Derived.Test.YthbhfipgdinihaaDoorAr
set_option linter.all false

namespace Go.Proofs.YthbhfipgdinihaaDoor
open Go.Sh Go.ChangeShapes Go.WideShapes Go.ChangeAt Go.RowKit
set_option maxRecDepth 100000

theorem snapCuts_lifted (os : Os) (started : os.Started) (H : Type) (enc : TypeId × Value → H) :
    ReturnsInHanded {} Tryd.checked os f_hedgerowlaw12_SnapCuts .any (fun w args => (Rows.snapCutsSpec.pre enc Tryd.prog Tryd.f3 Rows.snapCutsRow.domain false w args ∧ laidMetH Tryd.prog Rows.snapCutsRow.laid w) ∧ sizedMet enc Tryd.prog Tryd.f3 (OpenSpec.ofChange Rows.snapCutsSpec) false w args)
      (Rows.snapCutsSpec.post enc Tryd.prog Tryd.f3 false true false false) := by
  refine handed_both (C := Tryd.checked) (X := fun w _ => laidMetH Tryd.prog Rows.snapCutsRow.laid w) (fun _ _ _ hh h => h.of_heap hh) own0 started (by kernel_rfl) Tryd.func3
    (ChangeSpec.witness_shaped (enc := enc) (C := Tryd.checked) (os := os) (X := fun w _ => laidMetH Tryd.prog Rows.snapCutsRow.laid w) false (World.laidAll Tryd.prog os Rows.snapCutsRow.laid) #[.agg #[.int .i64 0, .int .i64 0, .int .i64 0, .int .i64 0, .int .i64 0, .int .i64 0, .int .i64 0, .int .i64 0, .int .i64 0, .int .i64 0, .int .i64 0, .int .i64 0, .int .i64 0, .int .i64 0, .int .i64 0, .int .i64 0, .slice none 0 0, .slice none 0 0], .int .u16 0, .slice none 0 0] 8 (World.laidAll_os _ _ _)
      (World.shaped_of_ZipB (by kernel_rfl) (by kernel_rfl)) (by kernel_rfl) (by kernel_rfl) (by kernel_rfl)
      (by rw [MakeChecks.laidMetH_plain _ _ _ (by kernel_rfl)]; exact laidMet_laidAll _ (by kernel_rfl) (by kernel_rfl))) ?_
  intro W base args ds gs before hval hW hc hL hS
  refine law_contract (P := Tryd.prog) mixed0 T_ok laid0 T_hedgerowlaw12_SnapCuts (by decide) (f := Tryd.f3) (s := Rows.snapCutsSpec) (n := 20) (by kernel_rfl) (show _ = some [snSh, Shape.int .u16, Shape.slice (.int .u8)] from by kernel_rfl) rfl (by kernel_rfl) rfl ?_ snapCuts_args hval (facts_of hL hS) hW hc
  obtain ⟨p, q, hA, hV, _⟩ := hW
  obtain ⟨rfl, _⟩ := trodVars_none hV
  have hA0 : DataW.TrodAll enc Tryd.prog W 0 (fun _ => true) true Tryd.f3.params.toList args.toList ds p := hA
  rw [Tryd.params3] at hA0
  obtain ⟨_, _, _, _, _, _, _, _, _, _, rfl, _⟩ := trodAll_three hA0
  rfl

set_option maxHeartbeats 4000000 in
theorem snapCuts_joined : joinedFacts Tryd.prog f_hedgerowlaw12_SnapCuts Tryd.f3 Rows.snapCutsSpec Rows.snapCutsRow = true := by
  simp only [joinedFacts, Bool.and_eq_true]
  and_intros
  all_goals as_aux_lemma => kernel_rfl

theorem snapCuts_holds : Rows.SnapCutsSaid :=
  OpenClaim.holds_of_wide f_hedgerowlaw12_SnapCuts Tryd.f3 rfl rfl rfl rfl rfl rfl rfl ⟨rfl, rfl, rfl, rfl, rfl⟩ rfl rfl rfl rfl rfl (by kernel_rfl) Tryd.func3 snapCuts_joined
    (of_decide_eq_true (by kernel_rfl)) (by unfold Func.isWrapper; first | (rw [if_pos (by decide +kernel)]; kernel_rfl) | (rw [if_neg (by decide +kernel)]; exact ⟨rfl, rfl⟩))
    (fun os started H enc _ => snapCuts_lifted os started H enc)

set_option maxHeartbeats 4000000 in
theorem snapCuts_card : Rows.SnapCutsCardSaid :=
  Claim7.holds_tied_plain_at .later [] [.data, .pinned] true (true, "6b6f941afd6f0a150d97b2a3e5607fa4ee8552ed6a365602f3f7d88092f9dff9") false snapCuts_holds (fun _ h => by cases h) (by as_aux_lemma => kernel_rfl) (fun _ h => by cases h) snapCuts_row_tie rfl ⟨rfl, rfl⟩ (by as_aux_lemma => kernel_rfl) rfl
    (fun f fn hf hfn => by
      obtain rfl : f = 3 := Option.some.inj ((show Tryd.prog.funcNamed "hedgerow/hedgerowlaw12.SnapCuts" = some 3 by as_aux_lemma => kernel_rfl).symm.trans hf) |>.symm
      obtain rfl : fn = Tryd.f3 := (Option.some.inj (Tryd.func3.symm.trans hfn)).symm
      exact ⟨by as_aux_lemma => kernel_rfl, fun j t ht => by
        have hm : t ∈ Tryd.f3.params.toList := by simpa using Array.mem_of_getElem? ht
        have hall : (Tryd.f3.params.toList.all fun u => !Tryd.prog.wantsStandIn u) = true := by as_aux_lemma => kernel_rfl
        exact (show Tryd.prog.wantsStandIn t = false by simpa using List.all_eq_true.1 hall t hm)⟩)
    (by as_aux_lemma => kernel_rfl)

end Go.Proofs.YthbhfipgdinihaaDoor
