/- Own work: the shadow machine and what it shows, part RowSnap. -/
import Derived.Test.YthmplnbogdfajaaGreatDoorSs
set_option linter.all false
namespace Go.Proofs.YthmplnbogdfajaaGreatDoor
open Go.Sh Go.ChangeShapes Go.WideShapes Go.ChangeAt Go.RowKit
set_option maxRecDepth 100000
theorem snapStores_lifted (os : Os) (started : os.Started) (H : Type) (enc : TypeId × Value → H) :
    ReturnsInHanded {} Tryz.checked os f_x14 .any (fun w args => (Rows.snapStoresSpec.pre enc Tryz.prog Tryz.f7 Rows.snapStoresRow.domain false w args ∧ laidMetH Tryz.prog Rows.snapStoresRow.laid w) ∧ sizedMet enc Tryz.prog Tryz.f7 (OpenSpec.ofChange Rows.snapStoresSpec) false w args)
      (Rows.snapStoresSpec.post enc Tryz.prog Tryz.f7 false true false false) := by
  refine handed_both (C := Tryz.checked) (X := fun w _ => laidMetH Tryz.prog Rows.snapStoresRow.laid w) (fun _ _ _ hh h => h.of_heap hh) own0 started (by kernel_rfl) Tryz.func7
    (ChangeSpec.witness_shaped (enc := enc) (C := Tryz.checked) (os := os) (X := fun w _ => laidMetH Tryz.prog Rows.snapStoresRow.laid w) false (World.laidAll Tryz.prog os Rows.snapStoresRow.laid) #[.slice none 0 0] 8 (World.laidAll_os _ _ _)
      (World.shaped_of_ZipB (by kernel_rfl) (by kernel_rfl)) (by kernel_rfl) (by kernel_rfl) (by kernel_rfl)
      (by rw [MakeChecks.laidMetH_plain _ _ _ (by kernel_rfl)]; exact laidMet_laidAll _ (by kernel_rfl) (by kernel_rfl))) ?_
  intro W base args ds gs before hval hW hc hL hS
  refine law_contract (P := Tryz.prog) mixed0 T2_ok laid0 (T2_up _ _ T_x14) (by decide) (f := Tryz.f7) (s := Rows.snapStoresSpec) (n := 20) (by kernel_rfl) (show _ = some [Shape.slice evSh] from by kernel_rfl) rfl (by kernel_rfl) rfl ?_ snapStores_args hval (facts_of hL hS) hW hc
  obtain ⟨p, q, hA, hV, _⟩ := hW
  obtain ⟨rfl, _⟩ := trodVars_none hV
  have hA0 : DataW.TrodAll enc Tryz.prog W 0 (fun _ => true) true Tryz.f7.params.toList args.toList ds p := hA
  rw [Tryz.params7] at hA0
  obtain ⟨_, _, _, rfl, _⟩ := trodAll_one hA0
  rfl
set_option maxHeartbeats 4000000 in
theorem snapStores_joined : joinedFacts Tryz.prog f_x14 Tryz.f7 Rows.snapStoresSpec Rows.snapStoresRow = true := by
  simp only [joinedFacts, Bool.and_eq_true]
  and_intros
  all_goals as_aux_lemma => kernel_rfl
theorem snapStores_holds : Rows.SnapStoresSaid :=
  OpenClaim.holds_of_wide f_x14 Tryz.f7 rfl rfl rfl rfl rfl rfl rfl ⟨rfl, rfl, rfl, rfl, rfl⟩ rfl rfl rfl rfl rfl (by kernel_rfl) Tryz.func7 snapStores_joined
    (of_decide_eq_true (by kernel_rfl)) (by unfold Func.isWrapper; first | (rw [if_pos (by decide +kernel)]; kernel_rfl) | (rw [if_neg (by decide +kernel)]; exact ⟨rfl, rfl⟩))
    (fun os started H enc _ => snapStores_lifted os started H enc)
set_option maxHeartbeats 4000000 in
theorem snapStores_card : Rows.SnapStoresCardSaid :=
  Claim7.holds_tied_plain_at .later [] [.data, .pinned] true (true, "b22fe744dd558c30d35b597d645a2f49c043c754d4e819e65a70a891fedeefd0") false snapStores_holds (fun _ h => by cases h) (by as_aux_lemma => kernel_rfl) (fun _ h => by cases h) snapStores_row_tie rfl ⟨rfl, rfl⟩ (by as_aux_lemma => kernel_rfl) rfl
    (fun f fn hf hfn => by
      obtain rfl : f = 7 := Option.some.inj ((show Tryz.prog.funcNamed "hedgerow/hedgerowlaw12.SnapStores" = some 7 by as_aux_lemma => kernel_rfl).symm.trans hf) |>.symm
      obtain rfl : fn = Tryz.f7 := (Option.some.inj (Tryz.func7.symm.trans hfn)).symm
      exact ⟨by as_aux_lemma => kernel_rfl, fun j t ht => by
        have hm : t ∈ Tryz.f7.params.toList := by simpa using Array.mem_of_getElem? ht
        have hall : (Tryz.f7.params.toList.all fun u => !Tryz.prog.wantsStandIn u) = true := by as_aux_lemma => kernel_rfl
        exact (show Tryz.prog.wantsStandIn t = false by simpa using List.all_eq_true.1 hall t hm)⟩)
    (by as_aux_lemma => kernel_rfl)
end Go.Proofs.YthmplnbogdfajaaGreatDoor
