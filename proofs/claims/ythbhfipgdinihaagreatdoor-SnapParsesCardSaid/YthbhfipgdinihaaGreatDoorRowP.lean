/- Own work: the shadow machine and what it shows, part RowP. -/
import Derived.Test.YthbhfipgdinihaaGreatDoorRowA
set_option linter.all false

namespace Go.Proofs.YthbhfipgdinihaaGreatDoor
open Go.Sh Go.ChangeShapes Go.WideShapes Go.ChangeAt Go.RowKit
set_option maxRecDepth 100000

theorem snapParses_lifted (os : Os) (started : os.Started) (H : Type) (enc : TypeId × Value → H) :
    ReturnsInHanded {} Tryz.checked os f_hedgerowlaw12_SnapParses .any (fun w args => (Rows.snapParsesSpec.pre enc Tryz.prog Tryz.f4 Rows.snapParsesRow.domain false w args ∧ laidMetH Tryz.prog Rows.snapParsesRow.laid w) ∧ sizedMet enc Tryz.prog Tryz.f4 (OpenSpec.ofChange Rows.snapParsesSpec) false w args)
      (Rows.snapParsesSpec.post enc Tryz.prog Tryz.f4 false true false false) := by
  refine handed_both (C := Tryz.checked) (X := fun w _ => laidMetH Tryz.prog Rows.snapParsesRow.laid w) (fun _ _ _ hh h => h.of_heap hh) own0 started (by kernel_rfl) Tryz.func4
    (ChangeSpec.witness_shaped (enc := enc) (C := Tryz.checked) (os := os) (X := fun w _ => laidMetH Tryz.prog Rows.snapParsesRow.laid w) false (World.laidAll Tryz.prog os Rows.snapParsesRow.laid) #[.slice none 0 0] 8 (World.laidAll_os _ _ _)
      (World.shaped_of_ZipB (by kernel_rfl) (by kernel_rfl)) (by kernel_rfl) (by kernel_rfl) (by kernel_rfl)
      (by rw [MakeChecks.laidMetH_plain _ _ _ (by kernel_rfl)]; exact laidMet_laidAll _ (by kernel_rfl) (by kernel_rfl))) ?_
  intro W base args ds gs before hval hW hc hL hS
  refine law_contract (P := Tryz.prog) mixed0 T_ok laid0 T_hedgerowlaw12_SnapParses (by decide) (f := Tryz.f4) (s := Rows.snapParsesSpec) (n := 20) (by kernel_rfl) (show _ = some [Shape.slice (.int .u8)] from by kernel_rfl) rfl (by kernel_rfl) rfl ?_ snapParses_args hval (facts_of hL hS) hW hc
  obtain ⟨p, q, hA, hV, _⟩ := hW
  obtain ⟨rfl, _⟩ := trodVars_none hV
  have hA0 : DataW.TrodAll enc Tryz.prog W 0 (fun _ => true) true Tryz.f4.params.toList args.toList ds p := hA
  rw [Tryz.params4] at hA0
  obtain ⟨_, _, _, rfl, _⟩ := trodAll_one hA0
  rfl

set_option maxHeartbeats 4000000 in
theorem snapParses_joined : joinedFacts Tryz.prog f_hedgerowlaw12_SnapParses Tryz.f4 Rows.snapParsesSpec Rows.snapParsesRow = true := by
  simp only [joinedFacts, Bool.and_eq_true]
  and_intros
  all_goals as_aux_lemma => kernel_rfl

theorem snapParses_holds : Rows.SnapParsesSaid :=
  OpenClaim.holds_of_wide f_hedgerowlaw12_SnapParses Tryz.f4 rfl rfl rfl rfl rfl rfl rfl ⟨rfl, rfl, rfl, rfl, rfl⟩ rfl rfl rfl rfl rfl (by kernel_rfl) Tryz.func4 snapParses_joined
    (of_decide_eq_true (by kernel_rfl)) (by unfold Func.isWrapper; first | (rw [if_pos (by decide +kernel)]; kernel_rfl) | (rw [if_neg (by decide +kernel)]; exact ⟨rfl, rfl⟩))
    (fun os started H enc _ => snapParses_lifted os started H enc)

set_option maxHeartbeats 4000000 in
theorem snapParses_card : Rows.SnapParsesCardSaid :=
  Claim7.holds_tied_plain_at .later [] [.data, .pinned] true (true, "8ce66f44c5d36a1e8213c8df30fc042a23d4facd1c0546160e9f916b460f2388") true snapParses_holds (fun _ h => by cases h) (by as_aux_lemma => kernel_rfl) (fun _ h => by cases h) snapParses_row_tie rfl ⟨rfl, rfl⟩ (by as_aux_lemma => kernel_rfl) rfl
    (fun f fn hf hfn => by
      obtain rfl : f = 4 := Option.some.inj ((show Tryz.prog.funcNamed "hedgerow/hedgerowlaw12.SnapParses" = some 4 by as_aux_lemma => kernel_rfl).symm.trans hf) |>.symm
      obtain rfl : fn = Tryz.f4 := (Option.some.inj (Tryz.func4.symm.trans hfn)).symm
      exact ⟨by as_aux_lemma => kernel_rfl, fun j t ht => by
        have hm : t ∈ Tryz.f4.params.toList := by simpa using Array.mem_of_getElem? ht
        have hall : (Tryz.f4.params.toList.all fun u => !Tryz.prog.wantsStandIn u) = true := by as_aux_lemma => kernel_rfl
        exact (show Tryz.prog.wantsStandIn t = false by simpa using List.all_eq_true.1 hall t hm)⟩)
    (by as_aux_lemma => kernel_rfl)

end Go.Proofs.YthbhfipgdinihaaGreatDoor
