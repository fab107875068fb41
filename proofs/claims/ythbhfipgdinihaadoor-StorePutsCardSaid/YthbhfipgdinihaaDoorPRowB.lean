/- Own work: the shadow machine and what it shows, part PRowB. -/
import Derived.Test.YthbhfipgdinihaaDoorPRowA
set_option linter.all false

namespace Go.Proofs.YthbhfipgdinihaaDoor
open Go.Sh Go.ChangeShapes Go.WideShapes Go.ChangeAt Go.RowKit
set_option maxRecDepth 100000

theorem storePuts_lifted (os : Os) (started : os.Started) (H : Type) (enc : TypeId × Value → H) :
    ReturnsInHanded {} Tryd.checked os f_hedgerowlaw07_StorePuts .any (fun w args => (Rows.storePutsSpec.pre enc Tryd.prog Tryd.f4 Rows.storePutsRow.domain false w args ∧ laidMetH Tryd.prog Rows.storePutsRow.laid w) ∧ sizedMet enc Tryd.prog Tryd.f4 (OpenSpec.ofChange Rows.storePutsSpec) false w args)
      (Rows.storePutsSpec.post enc Tryd.prog Tryd.f4 false true false false) := by
  refine handed_both (C := Tryd.checked) (X := fun w _ => laidMetH Tryd.prog Rows.storePutsRow.laid w) (fun _ _ _ hh h => h.of_heap hh) own0 started (by kernel_rfl) Tryd.func4
    (ChangeSpec.witness_shaped (enc := enc) (C := Tryd.checked) (os := os) (X := fun w _ => laidMetH Tryd.prog Rows.storePutsRow.laid w) false (World.laidAll Tryd.prog os Rows.storePutsRow.laid) #[.slice none 0 0, .agg #[.int .i64 0, .string ⟨#[]⟩, .string ⟨#[]⟩, .string ⟨#[]⟩, .string ⟨#[]⟩], .agg #[.int .i64 0, .string ⟨#[]⟩, .string ⟨#[]⟩, .string ⟨#[]⟩, .string ⟨#[]⟩]] 8 (World.laidAll_os _ _ _)
      (World.shaped_of_ZipB (by kernel_rfl) (by kernel_rfl)) (by kernel_rfl) (by kernel_rfl) (by kernel_rfl)
      (by rw [MakeChecks.laidMetH_plain _ _ _ (by kernel_rfl)]; exact laidMet_laidAll _ (by kernel_rfl) (by kernel_rfl))) ?_
  intro W base args ds gs before hval hW hc hL hS
  refine law_contract (P := Tryd.prog) mixed0 T_ok laid0 T_hedgerowlaw07_StorePuts (by decide) (f := Tryd.f4) (s := Rows.storePutsSpec) (n := 20) (by kernel_rfl) (show _ = some [Shape.slice itmSh, elSh, elSh] from by kernel_rfl) rfl (by kernel_rfl) rfl ?_ storePuts_args hval (facts_of hL hS) hW hc
  obtain ⟨p, q, hA, hV, _⟩ := hW
  obtain ⟨rfl, _⟩ := trodVars_none hV
  have hA0 : DataW.TrodAll enc Tryd.prog W 0 (fun _ => true) true Tryd.f4.params.toList args.toList ds p := hA
  rw [Tryd.params4] at hA0
  obtain ⟨_, _, _, _, _, _, _, _, _, _, rfl, _⟩ := trodAll_three hA0
  rfl

set_option maxHeartbeats 4000000 in
theorem storePuts_joined : joinedFacts Tryd.prog f_hedgerowlaw07_StorePuts Tryd.f4 Rows.storePutsSpec Rows.storePutsRow = true := by
  simp only [joinedFacts, Bool.and_eq_true]
  and_intros
  all_goals as_aux_lemma => kernel_rfl

theorem storePuts_holds : Rows.StorePutsSaid :=
  OpenClaim.holds_of_wide f_hedgerowlaw07_StorePuts Tryd.f4 rfl rfl rfl rfl rfl rfl rfl ⟨rfl, rfl, rfl, rfl, rfl⟩ rfl rfl rfl rfl rfl (by kernel_rfl) Tryd.func4 storePuts_joined
    (of_decide_eq_true (by kernel_rfl)) (by unfold Func.isWrapper; first | (rw [if_pos (by decide +kernel)]; kernel_rfl) | (rw [if_neg (by decide +kernel)]; exact ⟨rfl, rfl⟩))
    (fun os started H enc _ => storePuts_lifted os started H enc)

set_option maxHeartbeats 4000000 in
theorem storePuts_card : Rows.StorePutsCardSaid :=
  Claim7.holds_tied_plain_at .later [] [.data, .pinned] true (true, "6b6f941afd6f0a150d97b2a3e5607fa4ee8552ed6a365602f3f7d88092f9dff9") false storePuts_holds (fun _ h => by cases h) (by as_aux_lemma => kernel_rfl) (fun _ h => by cases h) storePuts_row_tie rfl ⟨rfl, rfl⟩ (by as_aux_lemma => kernel_rfl) rfl
    (fun f fn hf hfn => by
      obtain rfl : f = 4 := Option.some.inj ((show Tryd.prog.funcNamed "hedgerow/hedgerowlaw07.StorePuts" = some 4 by as_aux_lemma => kernel_rfl).symm.trans hf) |>.symm
      obtain rfl : fn = Tryd.f4 := (Option.some.inj (Tryd.func4.symm.trans hfn)).symm
      exact ⟨by as_aux_lemma => kernel_rfl, fun j t ht => by
        have hm : t ∈ Tryd.f4.params.toList := by simpa using Array.mem_of_getElem? ht
        have hall : (Tryd.f4.params.toList.all fun u => !Tryd.prog.wantsStandIn u) = true := by as_aux_lemma => kernel_rfl
        exact (show Tryd.prog.wantsStandIn t = false by simpa using List.all_eq_true.1 hall t hm)⟩)
    (by as_aux_lemma => kernel_rfl)

end Go.Proofs.YthbhfipgdinihaaDoor
