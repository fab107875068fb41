/- Own work: the zaN machine and what it shows, part RowAsks. -/
import Derived.Test.YtchjbidfmhmmhaaGreatDoorGz
import Derived.Carry
set_option linter.all false
namespace Go.Proofs.YtchjbidfmhmmhaaGreatDoor
open Go.Sh Go.ChangeShapes Go.WideShapes Go.ChangeAt Go.RowKit
set_option maxRecDepth 100000
theorem zhb (os:Os) (started:os.Started) (H:Type) (enc:TypeId × Value→H) :
    ReturnsInHanded {} Tryz.checked os zkG .any (fun w args=>(Rows.graphAsksSpec.pre enc Tryz.prog Tryz.f8 Rows.graphAsksRow.domain false w args∧laidMetH Tryz.prog Rows.graphAsksRow.laid w)∧sizedMet enc Tryz.prog Tryz.f8 (OpenSpec.ofChange Rows.graphAsksSpec) false w args)
      (Rows.graphAsksSpec.post enc Tryz.prog Tryz.f8 false true false false):=by
  refine zmI (C:=Tryz.checked) (X:=fun w _=>laidMetH Tryz.prog Rows.graphAsksRow.laid w) (fun _ _ _ hh h=>h.of_heap hh) zxQ started (by kernel_rfl) Tryz.func8
    (ChangeSpec.witness_shaped (enc:=enc) (C:=Tryz.checked) (os:=os) (X:=fun w _=>laidMetH Tryz.prog Rows.graphAsksRow.laid w) false (World.laidAll Tryz.prog os Rows.graphAsksRow.laid) #[.slice none 0 0,.string .empty,.agg #[.string .empty,.string .empty,.string .empty],.agg #[.int .i64 0,.string .empty,.string .empty,.string .empty,.string .empty]] 8 (World.laidAll_os _ _ _)
      (World.shaped_of_ZipB (by kernel_rfl) (by kernel_rfl)) (by kernel_rfl) (by kernel_rfl) (by kernel_rfl)
      (by rw [MakeChecks.laidMetH_plain _ _ _ (by kernel_rfl)]; exact laidMet_laidAll _ (by kernel_rfl) (by kernel_rfl))) ?_
  intro W base args ds gs before hval hW hc hL hS
  refine zlN (P:=Tryz.prog) zAM zCv zDH (zqB _ _ zAp) (by decide) (f:=Tryz.f8) (s:=Rows.graphAsksSpec) (n:=20) (by kernel_rfl) (show _=some [Shape.slice zB1,Shape.str,zDD,zB0] from by kernel_rfl) rfl (by kernel_rfl) rfl ?_ ziL hval (zvA hL hS) hW hc
  obtain ⟨p,q,hA,hV,_⟩:=hW
  obtain ⟨rfl,_⟩:=trodVars_none hV
  have hA0:DataW.TrodAll enc Tryz.prog W 0 (fun _=>true) true Tryz.f8.params.toList args.toList ds p:=hA
  rw [Tryz.params8] at hA0
  obtain ⟨_,_,_,_,_,_,_,_,_,_,_,_,_,rfl,_⟩:=trodAll_four hA0
  rfl
set_option maxHeartbeats 4000000 in
theorem zhc:joinedFacts Tryz.prog zkG Tryz.f8 Rows.graphAsksSpec Rows.graphAsksRow=true:=by
  simp only [joinedFacts,Bool.and_eq_true]
  and_intros
  all_goals as_aux_lemma=>kernel_rfl
theorem zhK:Rows.GraphAsksSaid :=
  OpenClaim.holds_of_wide zkG Tryz.f8 rfl rfl rfl rfl rfl rfl rfl ⟨rfl,rfl,rfl,rfl,rfl⟩ rfl rfl rfl rfl rfl (by kernel_rfl) Tryz.func8 zhc
    (of_decide_eq_true (by kernel_rfl)) (by unfold Func.isWrapper; first | (rw [if_pos (by decide +kernel)]; kernel_rfl) | (rw [if_neg (by decide +kernel)]; exact ⟨rfl,rfl⟩))
    (fun os started H enc _=>zhb os started H enc)
set_option maxHeartbeats 4000000 in
theorem graphAsks_card:Rows.GraphAsksCardSaid :=
  Claim7.holds_tied_plain_at .later [] [.data,.data,.data,.data,.pinned] true (true, "aa7bd46db012f0e9c119f200ac4f2f691ff7f03d73ce9233d583640a21b67b10") false zhK (fun _ h=>by cases h) (by as_aux_lemma=>kernel_rfl) (fun _ h=>by cases h) graphAsks_row_tie rfl ⟨rfl,rfl⟩ (by as_aux_lemma=>kernel_rfl) rfl
    (fun f fn hf hfn=>by
      obtain rfl:f=8:=Option.some.inj ((show Tryz.prog.funcNamed "hedgerow/hedgerowlaw08.GraphAsks" = some 8 by as_aux_lemma=>kernel_rfl).symm.trans hf) |>.symm
      obtain rfl:fn=Tryz.f8:=(Option.some.inj (Tryz.func8.symm.trans hfn)).symm
      exact ⟨by as_aux_lemma=>kernel_rfl,fun j t ht=>by
        have hm:t∈Tryz.f8.params.toList:=by simpa using Array.mem_of_getElem? ht
        have hall:(Tryz.f8.params.toList.all fun u=>!Tryz.prog.wantsStandIn u)=true:=by as_aux_lemma=>kernel_rfl
        exact (show Tryz.prog.wantsStandIn t=false by simpa using List.all_eq_true.1 hall t hm)⟩)
    (by as_aux_lemma=>kernel_rfl)
end Go.Proofs.YtchjbidfmhmmhaaGreatDoor
