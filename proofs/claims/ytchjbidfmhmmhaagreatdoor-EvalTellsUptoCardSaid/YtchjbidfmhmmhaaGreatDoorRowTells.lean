/- Own work: the zaM machine and what it shows, part RowTells. -/
import Derived.Test.YtchjbidfmhmmhaaGreatDoorRowU
import Derived.Carry
import Derived.JoinedCond
set_option linter.all false
namespace Go.Proofs.YtchjbidfmhmmhaaGreatDoor
open Go.Sh Go.ChangeShapes Go.WideShapes Go.ChangeAt Go.RowKit
set_option maxRecDepth 100000
theorem ziA:(Tryz.f3.params.toList.all fun t=>zA4 Tryz.prog 1024 20 t)=true:=by kernel_rfl
theorem zhV (os:Os) (started:os.Started) (H:Type) (enc:TypeId × Value→H) (F:Stop.Interp) :
 ReturnsInHanded {} Tryz.checked os zlT .any ((Rows.OpenSpec.upto Rows.evalTellsSpec).preRow enc Tryz.prog Tryz.f3 Rows.evalTellsUptoRow.domain false Rows.evalTellsUptoRow.laid) (((Rows.OpenSpec.upto Rows.evalTellsSpec).at F).post enc Tryz.prog Tryz.f3 false true false false):=by
 refine returnsInHanded_of_row (C:=Tryz.checked) (s:=Rows.OpenSpec.upto Rows.evalTellsSpec) zA3 started (by kernel_rfl) Tryz.func3
  (zmz (enc:=enc) (C:=Tryz.checked) false (World.laidAll Tryz.prog os Rows.evalTellsUptoRow.laid) #[.slice none 0 0,.int .i64 0,.slice none 0 0,.slice none 0 0] (World.laidAll_os _ _ _)
    (World.shaped_of_ZipB (by kernel_rfl) (by kernel_rfl)) (by kernel_rfl)
    (OpenSpec.preRow_of_cond 8 (x:=([.nil,.lit (.int .i64 0),.nil,.nil],[],[])) (by kernel_rfl) (by kernel_rfl) (fun k hk=>by cases hk; kernel_rfl) (by kernel_rfl)
      (by rw [MakeChecks.laidMetH_plain _ _ _ (by kernel_rfl)]; exact laidMet_laidAll _ (by kernel_rfl) (by kernel_rfl)))) ?_
 intro W base args ds gs before hval hW _ hk _ hL hS _
 refine zlu (P:=Tryz.prog) zEy zGi zHC (zxg _ _ zDZ) (by decide) (f:=Tryz.f3) (s:=Rows.evalTellsSpec) (n:=20) (by kernel_rfl) (show _=some [Shape.slice zFM,Shape.int .i64,Shape.slice zFN,Shape.slice zFL] from by kernel_rfl) rfl (by kernel_rfl) rfl ?_ zjI hval (zyw hL hS) hW (zlb ziA (hk _ rfl))
 obtain ⟨p,q,hA,hV,_⟩:=hW
 obtain ⟨rfl,_⟩:=trodVars_none hV
 have hA0:DataW.TrodAll enc Tryz.prog W 0 (fun _=>true) true Tryz.f3.params.toList args.toList ds p:=hA
 rw [Tryz.params3] at hA0
 obtain ⟨_,_,_,_,_,_,_,_,_,_,_,_,_,rfl,_⟩:=trodAll_four hA0
 rfl
set_option maxHeartbeats 4000000 in
theorem zhW:joinedFacts Tryz.prog zlT Tryz.f3 Rows.evalTellsSpec Rows.evalTellsUptoRow=true:=by
 simp only [joinedFacts,Bool.and_eq_true]
 and_intros
 all_goals as_aux_lemma=>kernel_rfl
theorem ziB:Rows.EvalTellsUptoSaid :=
 OpenClaim.holds_of_cond zlT Tryz.f3 rfl rfl rfl rfl rfl rfl rfl ⟨rfl,rfl,rfl,rfl,rfl⟩ rfl rfl rfl rfl rfl (by kernel_rfl) Tryz.func3 zhW
  (of_decide_eq_true (by kernel_rfl)) (by unfold Func.isWrapper; first | (rw [if_pos (by decide +kernel)]; kernel_rfl) | (rw [if_neg (by decide +kernel)]; exact ⟨rfl,rfl⟩))
  (fun os started H enc _ F=>by rw [OpenClaim.pre_eq_preRow]; exact zhV os started H enc F)
set_option maxHeartbeats 4000000 in
theorem evalTells_card:Rows.EvalTellsUptoCardSaid :=
 Claim7.holds_tied_plain_at .later [] [.data,.pinned] true (true, "aa7bd46db012f0e9c119f200ac4f2f691ff7f03d73ce9233d583640a21b67b10") false ziB (fun _ h=>by cases h) (by as_aux_lemma=>kernel_rfl) (fun _ h=>by cases h) evalTellsUpto_row_tie rfl ⟨rfl,rfl⟩ (by as_aux_lemma=>kernel_rfl) rfl
  (fun f fn hf hfn=>by
    obtain rfl:f=3:=Option.some.inj ((show Tryz.prog.funcNamed "hedgerow/hedgerowlaw22.EvalTells" = some 3 by as_aux_lemma=>kernel_rfl).symm.trans hf) |>.symm
    obtain rfl:fn=Tryz.f3:=(Option.some.inj (Tryz.func3.symm.trans hfn)).symm
    exact ⟨by as_aux_lemma=>kernel_rfl,fun j t ht=>by
     have hm:t∈Tryz.f3.params.toList:=by simpa using Array.mem_of_getElem? ht
     have hall:(Tryz.f3.params.toList.all fun u=>!Tryz.prog.wantsStandIn u)=true:=by as_aux_lemma=>kernel_rfl
     exact (show Tryz.prog.wantsStandIn t=false by simpa using List.all_eq_true.1 hall t hm)⟩)
  (by as_aux_lemma=>kernel_rfl)
end Go.Proofs.YtchjbidfmhmmhaaGreatDoor
