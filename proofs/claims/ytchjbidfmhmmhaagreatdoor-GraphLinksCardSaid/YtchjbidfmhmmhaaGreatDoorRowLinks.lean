/- Own work: the zaL machine and what it shows, part RowLinks. -/
import Derived.Test.YtchjbidfmhmmhaaGreatDoorGz
set_option linter.all false
namespace Go.Proofs.YtchjbidfmhmmhaaGreatDoor
open Go.Sh Go.ChangeShapes Go.WideShapes Go.ChangeAt Go.RowKit
set_option maxRecDepth 100000
theorem zge (os:Os) (started:os.Started) (H:Type) (enc:TypeId × Value → H) :
    ReturnsInHanded {} Tryz.checked os zkg .any (fun w args => (Rows.graphLinksSpec.pre enc Tryz.prog Tryz.f7 Rows.graphLinksRow.domain false w args ∧ laidMetH Tryz.prog Rows.graphLinksRow.laid w) ∧ sizedMet enc Tryz.prog Tryz.f7 (OpenSpec.ofChange Rows.graphLinksSpec) false w args)
      (Rows.graphLinksSpec.post enc Tryz.prog Tryz.f7 false true false false) := by
  refine zl8 (C := Tryz.checked) (X := fun w _ => laidMetH Tryz.prog Rows.graphLinksRow.laid w) (fun _ _ _ hh h => h.of_heap hh) zwS started (by kernel_rfl) Tryz.func7
    (ChangeSpec.witness_shaped (enc := enc) (C := Tryz.checked) (os := os) (X := fun w _ => laidMetH Tryz.prog Rows.graphLinksRow.laid w) false (World.laidAll Tryz.prog os Rows.graphLinksRow.laid) #[.slice none 0 0,.string .empty] 8 (World.laidAll_os _ _ _)
      (World.shaped_of_ZipB (by kernel_rfl) (by kernel_rfl)) (by kernel_rfl) (by kernel_rfl) (by kernel_rfl)
      (by rw [MakeChecks.laidMetH_plain _ _ _ (by kernel_rfl)]; exact laidMet_laidAll _ (by kernel_rfl) (by kernel_rfl))) ?_
  intro W base args ds gs before hval hW hc hL hS
  refine zll (P := Tryz.prog) zzG zBn zCt (zpR _ _ zzm) (by decide) (f := Tryz.f7) (s := Rows.graphLinksSpec) (n := 20) (by kernel_rfl) (show _ = some [Shape.slice zAU,Shape.str] from by kernel_rfl) rfl (by kernel_rfl) rfl ?_ zhj hval (zuJ hL hS) hW hc
  obtain ⟨p,q,hA,hV,_⟩ := hW
  obtain ⟨rfl,_⟩ := trodVars_none hV
  have hA0:DataW.TrodAll enc Tryz.prog W 0 (fun _ => true) true Tryz.f7.params.toList args.toList ds p := hA
  rw [Tryz.params7] at hA0
  obtain ⟨_,_,_,_,_,_,_,rfl,_⟩ := trodAll_two hA0
  rfl
set_option maxHeartbeats 4000000 in
theorem zgf:joinedFacts Tryz.prog zkg Tryz.f7 Rows.graphLinksSpec Rows.graphLinksRow = true := by
  simp only [joinedFacts,Bool.and_eq_true]
  and_intros
  all_goals as_aux_lemma => kernel_rfl
theorem zgS:Rows.GraphLinksSaid :=
  OpenClaim.holds_of_wide zkg Tryz.f7 rfl rfl rfl rfl rfl rfl rfl ⟨rfl,rfl,rfl,rfl,rfl⟩ rfl rfl rfl rfl rfl (by kernel_rfl) Tryz.func7 zgf
    (of_decide_eq_true (by kernel_rfl)) (by unfold Func.isWrapper; first | (rw [if_pos (by decide +kernel)]; kernel_rfl) | (rw [if_neg (by decide +kernel)]; exact ⟨rfl,rfl⟩))
    (fun os started H enc _ => zge os started H enc)
set_option maxHeartbeats 4000000 in
theorem graphLinks_card:Rows.GraphLinksCardSaid :=
  Claim7.holds_tied_plain_at .later [] [.data,.data,.data,.data,.pinned] true (true, "aa7bd46db012f0e9c119f200ac4f2f691ff7f03d73ce9233d583640a21b67b10") false zgS (fun _ h => by cases h) (by as_aux_lemma => kernel_rfl) (fun _ h => by cases h) graphLinks_row_tie rfl ⟨rfl,rfl⟩ (by as_aux_lemma => kernel_rfl) rfl
    (fun f fn hf hfn => by
      obtain rfl:f = 7 := Option.some.inj ((show Tryz.prog.funcNamed "hedgerow/hedgerowlaw08.GraphLinks" = some 7 by as_aux_lemma => kernel_rfl).symm.trans hf) |>.symm
      obtain rfl:fn = Tryz.f7 := (Option.some.inj (Tryz.func7.symm.trans hfn)).symm
      exact ⟨by as_aux_lemma => kernel_rfl,fun j t ht => by
        have hm:t ∈ Tryz.f7.params.toList := by simpa using Array.mem_of_getElem? ht
        have hall:(Tryz.f7.params.toList.all fun u => !Tryz.prog.wantsStandIn u) = true := by as_aux_lemma => kernel_rfl
        exact (show Tryz.prog.wantsStandIn t = false by simpa using List.all_eq_true.1 hall t hm)⟩)
    (by as_aux_lemma => kernel_rfl)
end Go.Proofs.YtchjbidfmhmmhaaGreatDoor
