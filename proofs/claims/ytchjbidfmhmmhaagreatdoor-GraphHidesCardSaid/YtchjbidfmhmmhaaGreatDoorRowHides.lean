/- Own work: the zaG machine and what it shows, part RowHides. -/
import Derived.Test.YtchjbidfmhmmhaaGreatDoorLc
set_option linter.all false
namespace Go.Proofs.YtchjbidfmhmmhaaGreatDoor
open Go.Sh Go.ChangeShapes Go.WideShapes Go.ChangeAt Go.RowKit
set_option maxRecDepth 100000
theorem zgr (os:Os) (started:os.Started) (H:Type) (enc:TypeId × Value→H) :
 ReturnsInHanded {} Tryz.checked os zkJ .any (fun w args=>(Rows.graphHidesSpec.pre enc Tryz.prog Tryz.f6 Rows.graphHidesRow.domain false w args∧laidMetH Tryz.prog Rows.graphHidesRow.laid w)∧sizedMet enc Tryz.prog Tryz.f6 (OpenSpec.ofChange Rows.graphHidesSpec) false w args)
  (Rows.graphHidesSpec.post enc Tryz.prog Tryz.f6 false true false false):=by
 refine zmH (C:=Tryz.checked) (X:=fun w _=>laidMetH Tryz.prog Rows.graphHidesRow.laid w) (fun _ _ _ hh h=>h.of_heap hh) zxX started (by kernel_rfl) Tryz.func6
  (ChangeSpec.witness_shaped (enc:=enc) (C:=Tryz.checked) (os:=os) (X:=fun w _=>laidMetH Tryz.prog Rows.graphHidesRow.laid w) false (World.laidAll Tryz.prog os Rows.graphHidesRow.laid) #[.slice none 0 0,.string .empty] 8 (World.laidAll_os _ _ _)
    (World.shaped_of_ZipB (by kernel_rfl) (by kernel_rfl)) (by kernel_rfl) (by kernel_rfl) (by kernel_rfl)
    (by rw [MakeChecks.laidMetH_plain _ _ _ (by kernel_rfl)]; exact laidMet_laidAll _ (by kernel_rfl) (by kernel_rfl))) ?_
 intro W base args ds gs before hval hW hc hL hS
 refine zlS (P:=Tryz.prog) zAI zCl zDt (zqF _ _ zAj) (by decide) (f:=Tryz.f6) (s:=Rows.graphHidesSpec) (n:=20) (by kernel_rfl) (show _=some [Shape.slice zBS,Shape.str] from by kernel_rfl) rfl (by kernel_rfl) rfl ?_ zhF hval (zvH hL hS) hW hc
 obtain ⟨p,q,hA,hV,_⟩:=hW
 obtain ⟨rfl,_⟩:=trodVars_none hV
 have hA0:DataW.TrodAll enc Tryz.prog W 0 (fun _=>true) true Tryz.f6.params.toList args.toList ds p:=hA
 rw [Tryz.params6] at hA0
 obtain ⟨_,_,_,_,_,_,_,rfl,_⟩:=trodAll_two hA0
 rfl
set_option maxHeartbeats 4000000 in
theorem zgs:joinedFacts Tryz.prog zkJ Tryz.f6 Rows.graphHidesSpec Rows.graphHidesRow=true:=by
 simp only [joinedFacts,Bool.and_eq_true]
 and_intros
 all_goals as_aux_lemma=>kernel_rfl
theorem zg6:Rows.GraphHidesSaid :=
 OpenClaim.holds_of_wide zkJ Tryz.f6 rfl rfl rfl rfl rfl rfl rfl ⟨rfl,rfl,rfl,rfl,rfl⟩ rfl rfl rfl rfl rfl (by kernel_rfl) Tryz.func6 zgs
  (of_decide_eq_true (by kernel_rfl)) (by unfold Func.isWrapper; first | (rw [if_pos (by decide +kernel)]; kernel_rfl) | (rw [if_neg (by decide +kernel)]; exact ⟨rfl,rfl⟩))
  (fun os started H enc _=>zgr os started H enc)
set_option maxHeartbeats 4000000 in
theorem graphHides_card:Rows.GraphHidesCardSaid :=
 Claim7.holds_tied_plain_at .later [] [.data,.data,.data,.data,.pinned] true (true, "aa7bd46db012f0e9c119f200ac4f2f691ff7f03d73ce9233d583640a21b67b10") false zg6 (fun _ h=>by cases h) (by as_aux_lemma=>kernel_rfl) (fun _ h=>by cases h) graphHides_row_tie rfl ⟨rfl,rfl⟩ (by as_aux_lemma=>kernel_rfl) rfl
  (fun f fn hf hfn=>by
    obtain rfl:f=6:=Option.some.inj ((show Tryz.prog.funcNamed "hedgerow/hedgerowlaw08.GraphHides" = some 6 by as_aux_lemma=>kernel_rfl).symm.trans hf) |>.symm
    obtain rfl:fn=Tryz.f6:=(Option.some.inj (Tryz.func6.symm.trans hfn)).symm
    exact ⟨by as_aux_lemma=>kernel_rfl,fun j t ht=>by
     have hm:t∈Tryz.f6.params.toList:=by simpa using Array.mem_of_getElem? ht
     have hall:(Tryz.f6.params.toList.all fun u=>!Tryz.prog.wantsStandIn u)=true:=by as_aux_lemma=>kernel_rfl
     exact (show Tryz.prog.wantsStandIn t=false by simpa using List.all_eq_true.1 hall t hm)⟩)
  (by as_aux_lemma=>kernel_rfl)
end Go.Proofs.YtchjbidfmhmmhaaGreatDoor
