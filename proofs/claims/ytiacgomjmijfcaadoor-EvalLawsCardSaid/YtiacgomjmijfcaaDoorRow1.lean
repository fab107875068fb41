/- Own work, over the shadow machine: DRow. -/
import Derived.Test.YtiacgomjmijfcaaDoorEv5
import Derived.Test.YtiacgomjmijfcaaDoorTie
import Derived.Test.YtiacgomjmijfcaaDoorCards
import Derived.LaidMore
import Derived.Lay
import Derived.SevenTiedAt
import Derived.Stop.Joined
set_option linter.all false
namespace Go.Proofs.YtiacgomjmijfcaaDoor
open Go.Sh Go.ChangeShapes Go.WideShapes Go.ChangeAt Go.RowKit
set_option maxRecDepth 100000

theorem own0 : ownKnob Tryd.prog.godebug = none := by kernel_rfl
theorem laid0 : laidOutB Tryd.prog = true := by kernel_rfl
theorem mixed0 : Tryd.prog.follows .mixedOrders = true := by kernel_rfl

theorem eval_args (gargs : List GV) (h : ArgsFit [.int .u8, .int .u8] gargs) : ∃ H', ecall T f_hedgerowlaw22_EvalLaws gargs (isoH Tryd.prog.globals.size) = some (.bool true, H') := by
  cases h with
  | cons h1 t1 =>
    cases t1 with
    | cons h2 t2 =>
      cases t2
      obtain ⟨a, e1, ba⟩ := fits_int h1
      obtain ⟨b, e2, bb⟩ := fits_int h2
      rw [e1, e2]
      simp [IntKind.min, IntKind.max, IntKind.signed, IntKind.bits] at ba bb
      exact eval_law a b ba.1 bb.1 _ (Nat.le_refl _)

theorem eval_lifted (os : Os) (started : os.Started) (H : Type) (enc : TypeId × Value → H) :
    ReturnsInHanded {} Tryd.checked os f_hedgerowlaw22_EvalLaws .any (fun w args => (Rows.evalLawsSpec.pre enc Tryd.prog Tryd.f3 Rows.evalLawsRow.domain false w args ∧ laidMetH Tryd.prog Rows.evalLawsRow.laid w) ∧ sizedMet enc Tryd.prog Tryd.f3 (OpenSpec.ofChange Rows.evalLawsSpec) false w args)
      (Rows.evalLawsSpec.post enc Tryd.prog Tryd.f3 false true false false) := by
  refine returnsInHanded_of_change_and (C := Tryd.checked) (X := fun w _ => laidMetH Tryd.prog Rows.evalLawsRow.laid w) (fun _ _ _ hh h => h.of_heap hh) own0 started (by kernel_rfl) Tryd.func3
    (ChangeSpec.witness_shaped (enc := enc) (C := Tryd.checked) (os := os) (X := fun w _ => laidMetH Tryd.prog Rows.evalLawsRow.laid w) false (World.laidAll Tryd.prog os Rows.evalLawsRow.laid) #[.int .u8 0, .int .u8 0] 8 (World.laidAll_os _ _ _)
      (World.shaped_of_ZipB (by kernel_rfl) (by kernel_rfl)) (by kernel_rfl) (by kernel_rfl) (by kernel_rfl)
      (by rw [MakeChecks.laidMetH_plain _ _ _ (by kernel_rfl)]; exact laidMet_laidAll _ (by kernel_rfl) (by kernel_rfl))) ?_
  intro W base args ds gs before hval hW hc _ hL _
  refine law_contract (P := Tryd.prog) mixed0 T_ok laid0 (f := Tryd.f3) (s := Rows.evalLawsSpec) (ss := [.int .u8, .int .u8]) (n := 20) (by kernel_rfl) (by kernel_rfl) rfl (by kernel_rfl) rfl ?_ eval_args hval hW
  obtain ⟨p, q, hA, hV, _⟩ := hW
  obtain ⟨rfl, _⟩ := trodVars_none hV
  have hA0 : DataW.TrodAll enc Tryd.prog W 0 (fun _ => true) true Tryd.f3.params.toList args.toList ds p := hA
  rw [Tryd.params3] at hA0
  obtain ⟨_, _, _, _, _, _, _, rfl, _⟩ := trodAll_two hA0
  rfl

theorem evalLaws_holds : Rows.EvalLawsSaid :=
  OpenClaim.holds_of_wide f_hedgerowlaw22_EvalLaws Tryd.f3 rfl rfl rfl rfl rfl rfl rfl ⟨rfl, rfl, rfl, rfl, rfl⟩ rfl rfl rfl rfl rfl (by kernel_rfl) Tryd.func3 (by kernel_rfl)
    (of_decide_eq_true (by kernel_rfl)) (by unfold Func.isWrapper; first | (rw [if_pos (by decide +kernel)]; kernel_rfl) | (rw [if_neg (by decide +kernel)]; exact ⟨rfl, rfl⟩))
    (fun os started H enc _ => eval_lifted os started H enc)

theorem evalLaws_card : Rows.EvalLawsCardSaid :=
  Claim7.holds_tied_plain_at .later [] [.data, .pinned] true (true, "5c7a69ca3d5cbebfb7dea3ca0426bc0eece95240c888d94089508cf0af04de19") false evalLaws_holds (fun _ h => by cases h) (by kernel_rfl) (fun _ h => by cases h) evalLaws_row_tie rfl ⟨rfl, rfl⟩ (by kernel_rfl) rfl
    (fun f fn hf hfn => by
      obtain rfl : f = 3 := Option.some.inj ((show Tryd.prog.funcNamed "hedgerow/hedgerowlaw22.EvalLaws" = some 3 by kernel_rfl).symm.trans hf) |>.symm
      obtain rfl : fn = Tryd.f3 := (Option.some.inj (Tryd.func3.symm.trans hfn)).symm
      exact ⟨by kernel_rfl, fun j t ht => by
        have hm : t ∈ Tryd.f3.params.toList := by simpa using Array.mem_of_getElem? ht
        have hall : (Tryd.f3.params.toList.all fun u => !Tryd.prog.wantsStandIn u) = true := by kernel_rfl
        exact (show Tryd.prog.wantsStandIn t = false by simpa using List.all_eq_true.1 hall t hm)⟩)
    (by kernel_rfl)

end Go.Proofs.YtiacgomjmijfcaaDoor
