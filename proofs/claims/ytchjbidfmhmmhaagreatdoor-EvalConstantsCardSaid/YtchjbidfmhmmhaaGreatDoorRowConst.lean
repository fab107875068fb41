/- Own work: the zaH machine and what it shows, part RowConst. -/
import Derived.Test.YtchjbidfmhmmhaaGreatDoorXq
set_option linter.all false
namespace Go.Proofs.YtchjbidfmhmmhaaGreatDoor
open Go.Sh Go.ChangeShapes Go.WideShapes Go.ChangeAt Go.RowKit
set_option maxRecDepth 100000
theorem zek (os:Os) (started:os.Started) (H:Type) (enc:TypeId × Value → H) :
    ReturnsInHanded {} Tryz.checked os zjs .any (fun w args => (Rows.evalConstantsSpec.pre enc Tryz.prog Tryz.f4 Rows.evalConstantsRow.domain false w args ∧ laidMetH Tryz.prog Rows.evalConstantsRow.laid w) ∧ sizedMet enc Tryz.prog Tryz.f4 (OpenSpec.ofChange Rows.evalConstantsSpec) false w args)
      (Rows.evalConstantsSpec.post enc Tryz.prog Tryz.f4 false true false false) := by
  refine zlq (C := Tryz.checked) (X := fun w _ => laidMetH Tryz.prog Rows.evalConstantsRow.laid w) (fun _ _ _ hh h => h.of_heap hh) zvD started (by kernel_rfl) Tryz.func4
    (ChangeSpec.witness_shaped (enc := enc) (C := Tryz.checked) (os := os) (X := fun w _ => laidMetH Tryz.prog Rows.evalConstantsRow.laid w) false (World.laidAll Tryz.prog os Rows.evalConstantsRow.laid) #[.slice none 0 0,.int .i64 0,.slice none 0 0] 8 (World.laidAll_os _ _ _)
      (World.shaped_of_ZipB (by kernel_rfl) (by kernel_rfl)) (by kernel_rfl) (by kernel_rfl) (by kernel_rfl)
      (by rw [MakeChecks.laidMetH_plain _ _ _ (by kernel_rfl)]; exact laidMet_laidAll _ (by kernel_rfl) (by kernel_rfl))) ?_
  intro W base args ds gs before hval hW hc hL hS
  refine zkt (P := Tryz.prog) zyt zAd zBk (zss _ _ zyb) (by decide) (f := Tryz.f4) (s := Rows.evalConstantsSpec) (n := 20) (by kernel_rfl) (show _ = some [Shape.slice zz9,Shape.int .i64,Shape.slice zAa] from by kernel_rfl) rfl (by kernel_rfl) rfl ?_ zfm hval (zto hL hS) hW hc
  obtain ⟨p,q,hA,hV,_⟩ := hW
  obtain ⟨rfl,_⟩ := trodVars_none hV
  have hA0:DataW.TrodAll enc Tryz.prog W 0 (fun _ => true) true Tryz.f4.params.toList args.toList ds p := hA
  rw [Tryz.params4] at hA0
  obtain ⟨_,_,_,_,_,_,_,_,_,_,rfl,_⟩ := trodAll_three hA0
  rfl
set_option maxHeartbeats 4000000 in
theorem zel:joinedFacts Tryz.prog zjs Tryz.f4 Rows.evalConstantsSpec Rows.evalConstantsRow = true := by
  simp only [joinedFacts,Bool.and_eq_true]
  and_intros
  all_goals as_aux_lemma => kernel_rfl
theorem zet:Rows.EvalConstantsSaid :=
  OpenClaim.holds_of_wide zjs Tryz.f4 rfl rfl rfl rfl rfl rfl rfl ⟨rfl,rfl,rfl,rfl,rfl⟩ rfl rfl rfl rfl rfl (by kernel_rfl) Tryz.func4 zel
    (of_decide_eq_true (by kernel_rfl)) (by unfold Func.isWrapper; first | (rw [if_pos (by decide +kernel)]; kernel_rfl) | (rw [if_neg (by decide +kernel)]; exact ⟨rfl,rfl⟩))
    (fun os started H enc _ => zek os started H enc)
set_option maxHeartbeats 4000000 in
theorem evalConstants_card:Rows.EvalConstantsCardSaid :=
  Claim7.holds_tied_plain_at .later [] [.data,.pinned] true (true, "aa7bd46db012f0e9c119f200ac4f2f691ff7f03d73ce9233d583640a21b67b10") false zet (fun _ h => by cases h) (by as_aux_lemma => kernel_rfl) (fun _ h => by cases h) evalConstants_row_tie rfl ⟨rfl,rfl⟩ (by as_aux_lemma => kernel_rfl) rfl
    (fun f fn hf hfn => by
      obtain rfl:f = 4 := Option.some.inj ((show Tryz.prog.funcNamed "hedgerow/hedgerowlaw22.EvalConstants" = some 4 by as_aux_lemma => kernel_rfl).symm.trans hf) |>.symm
      obtain rfl:fn = Tryz.f4 := (Option.some.inj (Tryz.func4.symm.trans hfn)).symm
      exact ⟨by as_aux_lemma => kernel_rfl,fun j t ht => by
        have hm:t ∈ Tryz.f4.params.toList := by simpa using Array.mem_of_getElem? ht
        have hall:(Tryz.f4.params.toList.all fun u => !Tryz.prog.wantsStandIn u) = true := by as_aux_lemma => kernel_rfl
        exact (show Tryz.prog.wantsStandIn t = false by simpa using List.all_eq_true.1 hall t hm)⟩)
    (by as_aux_lemma => kernel_rfl)
end Go.Proofs.YtchjbidfmhmmhaaGreatDoor
