/- Own work: the zaO machine and what it shows, part RowLines. -/
import Derived.Test.YtchjbidfmhmmhaaGreatDoorLb
set_option linter.all false
namespace Go.Proofs.YtchjbidfmhmmhaaGreatDoor
open Go.Sh Go.ChangeShapes Go.WideShapes Go.ChangeAt Go.RowKit
set_option maxRecDepth 100000
theorem zg9 (os:Os) (started:os.Started) (H:Type) (enc:TypeId × Value→H) :
 ReturnsInHanded {} Tryz.checked os zlR .any (fun w args=>(Rows.graphLinesSpec.pre enc Tryz.prog Tryz.f5 Rows.graphLinesRow.domain false w args∧laidMetH Tryz.prog Rows.graphLinesRow.laid w)∧sizedMet enc Tryz.prog Tryz.f5 (OpenSpec.ofChange Rows.graphLinesSpec) false w args)
  (Rows.graphLinesSpec.post enc Tryz.prog Tryz.f5 false true false false):=by
 refine zn5 (C:=Tryz.checked) (X:=fun w _=>laidMetH Tryz.prog Rows.graphLinesRow.laid w) (fun _ _ _ hh h=>h.of_heap hh) zAb started (by kernel_rfl) Tryz.func5
  (ChangeSpec.witness_shaped (enc:=enc) (C:=Tryz.checked) (os:=os) (X:=fun w _=>laidMetH Tryz.prog Rows.graphLinesRow.laid w) false (World.laidAll Tryz.prog os Rows.graphLinesRow.laid) #[.slice none 0 0] 8 (World.laidAll_os _ _ _)
    (World.shaped_of_ZipB (by kernel_rfl) (by kernel_rfl)) (by kernel_rfl) (by kernel_rfl) (by kernel_rfl)
    (by rw [MakeChecks.laidMetH_plain _ _ _ (by kernel_rfl)]; exact laidMet_laidAll _ (by kernel_rfl) (by kernel_rfl))) ?_
 intro W base args ds gs before hval hW hc hL hS
 refine zm7 (P:=Tryz.prog) zDa zEQ zGa (zsc _ _ zCJ) (by decide) (f:=Tryz.f5) (s:=Rows.graphLinesSpec) (n:=20) (by kernel_rfl) (show _=some [Shape.slice zEm] from by kernel_rfl) rfl (by kernel_rfl) rfl ?_ zim hval (zxM hL hS) hW hc
 obtain ⟨p,q,hA,hV,_⟩:=hW
 obtain ⟨rfl,_⟩:=trodVars_none hV
 have hA0:DataW.TrodAll enc Tryz.prog W 0 (fun _=>true) true Tryz.f5.params.toList args.toList ds p:=hA
 rw [Tryz.params5] at hA0
 obtain ⟨_,_,_,rfl,_⟩:=trodAll_one hA0
 rfl
set_option maxHeartbeats 4000000 in
theorem zha:joinedFacts Tryz.prog zlR Tryz.f5 Rows.graphLinesSpec Rows.graphLinesRow=true:=by
 simp only [joinedFacts,Bool.and_eq_true]
 and_intros
 all_goals as_aux_lemma=>kernel_rfl
theorem zhP:Rows.GraphLinesSaid :=
 OpenClaim.holds_of_wide zlR Tryz.f5 rfl rfl rfl rfl rfl rfl rfl ⟨rfl,rfl,rfl,rfl,rfl⟩ rfl rfl rfl rfl rfl (by kernel_rfl) Tryz.func5 zha
  (of_decide_eq_true (by kernel_rfl)) (by unfold Func.isWrapper; first | (rw [if_pos (by decide +kernel)]; kernel_rfl) | (rw [if_neg (by decide +kernel)]; exact ⟨rfl,rfl⟩))
  (fun os started H enc _=>zg9 os started H enc)
set_option maxHeartbeats 4000000 in
theorem graphLines_card:Rows.GraphLinesCardSaid :=
 Claim7.holds_tied_plain_at .later [] [.data,.data,.data,.data,.pinned] true (true, "aa7bd46db012f0e9c119f200ac4f2f691ff7f03d73ce9233d583640a21b67b10") false zhP (fun _ h=>by cases h) (by as_aux_lemma=>kernel_rfl) (fun _ h=>by cases h) graphLines_row_tie rfl ⟨rfl,rfl⟩ (by as_aux_lemma=>kernel_rfl) rfl
  (fun f fn hf hfn=>by
    obtain rfl:f=5:=Option.some.inj ((show Tryz.prog.funcNamed "hedgerow/hedgerowlaw08.GraphLines" = some 5 by as_aux_lemma=>kernel_rfl).symm.trans hf) |>.symm
    obtain rfl:fn=Tryz.f5:=(Option.some.inj (Tryz.func5.symm.trans hfn)).symm
    exact ⟨by as_aux_lemma=>kernel_rfl,fun j t ht=>by
     have hm:t∈Tryz.f5.params.toList:=by simpa using Array.mem_of_getElem? ht
     have hall:(Tryz.f5.params.toList.all fun u=>!Tryz.prog.wantsStandIn u)=true:=by as_aux_lemma=>kernel_rfl
     exact (show Tryz.prog.wantsStandIn t=false by simpa using List.all_eq_true.1 hall t hm)⟩)
  (by as_aux_lemma=>kernel_rfl)
end Go.Proofs.YtchjbidfmhmmhaaGreatDoor
