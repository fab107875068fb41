/- Own work, over the shadow machine: JRowA. -/
import Derived.Test.YtalhcaadpgadkaaDoorFits
set_option linter.all false
namespace Go.Proofs.YtalhcaadpgadkaaDoor
open Go.Sh Go.ChangeShapes Go.WideShapes Go.ChangeAt Go.RowKit
set_option maxRecDepth 100000

theorem scriptJoins_lifted (os : Os) (started : os.Started) (H : Type) (enc : TypeId × Value → H) :
    ReturnsInHanded {} Tryd.checked os f_hedgerowlaw29_ScriptJoins .any (fun w args => (Rows.scriptJoinsSpec.pre enc Tryd.prog Tryd.f3 Rows.scriptJoinsRow.domain false w args ∧ laidMetH Tryd.prog Rows.scriptJoinsRow.laid w) ∧ sizedMet enc Tryd.prog Tryd.f3 (OpenSpec.ofChange Rows.scriptJoinsSpec) false w args)
      (Rows.scriptJoinsSpec.post enc Tryd.prog Tryd.f3 false true false false) := by
  refine handed_both (C := Tryd.checked) (X := fun w _ => laidMetH Tryd.prog Rows.scriptJoinsRow.laid w) (fun _ _ _ hh h => h.of_heap hh) own0 started (by kernel_rfl) Tryd.func3
    (ChangeSpec.witness_shaped (enc := enc) (C := Tryd.checked) (os := os) (X := fun w _ => laidMetH Tryd.prog Rows.scriptJoinsRow.laid w) false (World.laidAll Tryd.prog os Rows.scriptJoinsRow.laid) #[.slice none 0 0, .slice none 0 0] 8 (World.laidAll_os _ _ _)
      (World.shaped_of_ZipB (by kernel_rfl) (by kernel_rfl)) (by kernel_rfl) (by kernel_rfl) (by kernel_rfl)
      (by rw [MakeChecks.laidMetH_plain _ _ _ (by kernel_rfl)]; exact laidMet_laidAll _ (by kernel_rfl) (by kernel_rfl))) ?_
  intro W base args ds gs before hval hW hc hL hS
  refine law_contract (P := Tryd.prog) mixed0 T_ok laid0 T_hedgerowlaw29_ScriptJoins (by decide) (f := Tryd.f3) (s := Rows.scriptJoinsSpec) (n := 20) (by kernel_rfl) (show _ = some [.slice stpSh, .slice stpSh] from by kernel_rfl) rfl (by kernel_rfl) rfl ?_ scriptJoins_args hval (facts_of hL hS) hW hc
  obtain ⟨p, q, hA, hV, _⟩ := hW
  obtain ⟨rfl, _⟩ := trodVars_none hV
  have hA0 : DataW.TrodAll enc Tryd.prog W 0 (fun _ => true) true Tryd.f3.params.toList args.toList ds p := hA
  rw [Tryd.params3] at hA0
  obtain ⟨_, _, _, _, _, _, _, rfl, _⟩ := trodAll_two hA0
  rfl

theorem scriptJoins_holds : Rows.ScriptJoinsSaid :=
  OpenClaim.holds_of_wide f_hedgerowlaw29_ScriptJoins Tryd.f3 rfl rfl rfl rfl rfl rfl rfl ⟨rfl, rfl, rfl, rfl, rfl⟩ rfl rfl rfl rfl rfl (by kernel_rfl) Tryd.func3 (by kernel_rfl)
    (of_decide_eq_true (by kernel_rfl)) (by unfold Func.isWrapper; first | (rw [if_pos (by decide +kernel)]; kernel_rfl) | (rw [if_neg (by decide +kernel)]; exact ⟨rfl, rfl⟩))
    (fun os started H enc _ => scriptJoins_lifted os started H enc)

theorem scriptJoins_card : Rows.ScriptJoinsCardSaid :=
  Claim7.holds_tied_plain_at .later [] [.data, .data, .data, .data, .sentinel, .sentinel, .pinned] true (true, "91c89a7a6a307bb1fe2804501350aa7a2a86ca2df3c3298c5620838ac932d57a") true scriptJoins_holds (fun _ h => by cases h) (by kernel_rfl) (fun _ h => by cases h) scriptJoins_row_tie rfl ⟨rfl, rfl⟩ (by kernel_rfl) rfl
    (fun f fn hf hfn => by
      obtain rfl : f = 3 := Option.some.inj ((show Tryd.prog.funcNamed "hedgerow/hedgerowlaw29.ScriptJoins" = some 3 by kernel_rfl).symm.trans hf) |>.symm
      obtain rfl : fn = Tryd.f3 := (Option.some.inj (Tryd.func3.symm.trans hfn)).symm
      exact ⟨by kernel_rfl, fun j t ht => by
        have hm : t ∈ Tryd.f3.params.toList := by simpa using Array.mem_of_getElem? ht
        have hall : (Tryd.f3.params.toList.all fun u => !Tryd.prog.wantsStandIn u) = true := by kernel_rfl
        exact (show Tryd.prog.wantsStandIn t = false by simpa using List.all_eq_true.1 hall t hm)⟩)
    (by kernel_rfl)

end Go.Proofs.YtalhcaadpgadkaaDoor
