/- Own work, over the shadow machine: VRowP. -/
import Derived.Test.YtbcdhjalciljaaaDoorRowC
set_option linter.all false
namespace Go.Proofs.YtbcdhjalciljaaaDoor
open Go.Sh Go.ChangeShapes Go.WideShapes Go.ChangeAt Go.RowKit
set_option maxRecDepth 100000

theorem valueParses_args (gargs : List GV) (h : ArgsFit [.str] gargs) : ∃ H', ecall T f_hedgerowlaw01_ValueParses gargs (isoH Tryd.prog.globals.size) = some (.bool true, H') := by
  cases h with
  | cons h1 t1 =>
    cases t1
    obtain ⟨s, e1, _⟩ := fits_str h1
    rw [e1]
    exact ⟨_, parses_ok s _⟩

theorem valueParses_lifted (os : Os) (started : os.Started) (H : Type) (enc : TypeId × Value → H) :
    ReturnsInHanded {} Tryd.checked os f_hedgerowlaw01_ValueParses .any (fun w args => (Rows.valueParsesSpec.pre enc Tryd.prog Tryd.f4 Rows.valueParsesRow.domain false w args ∧ laidMetH Tryd.prog Rows.valueParsesRow.laid w) ∧ sizedMet enc Tryd.prog Tryd.f4 (OpenSpec.ofChange Rows.valueParsesSpec) false w args)
      (Rows.valueParsesSpec.post enc Tryd.prog Tryd.f4 false true false false) := by
  refine handed_both (C := Tryd.checked) (X := fun w _ => laidMetH Tryd.prog Rows.valueParsesRow.laid w) (fun _ _ _ hh h => h.of_heap hh) own0 started (by kernel_rfl) Tryd.func4
    (ChangeSpec.witness_shaped (enc := enc) (C := Tryd.checked) (os := os) (X := fun w _ => laidMetH Tryd.prog Rows.valueParsesRow.laid w) false (World.laidAll Tryd.prog os Rows.valueParsesRow.laid) #[.string .empty] 8 (World.laidAll_os _ _ _)
      (World.shaped_of_ZipB (by kernel_rfl) (by kernel_rfl)) (by kernel_rfl) (by kernel_rfl) (by kernel_rfl)
      (by rw [MakeChecks.laidMetH_plain _ _ _ (by kernel_rfl)]; exact laidMet_laidAll _ (by kernel_rfl) (by kernel_rfl))) ?_
  intro W base args ds gs before hval hW hc hL hS
  refine law_contract (P := Tryd.prog) mixed0 T_ok laid0 T_hedgerowlaw01_ValueParses (by decide) (f := Tryd.f4) (s := Rows.valueParsesSpec) (n := 20) (by kernel_rfl) (show _ = some [Shape.str] from by kernel_rfl) rfl (by kernel_rfl) rfl ?_ valueParses_args hval (facts_of hL hS) hW
  obtain ⟨p, q, hA, hV, _⟩ := hW
  obtain ⟨rfl, _⟩ := trodVars_none hV
  have hA0 : DataW.TrodAll enc Tryd.prog W 0 (fun _ => true) true Tryd.f4.params.toList args.toList ds p := hA
  rw [Tryd.params4] at hA0
  obtain ⟨_, _, _, rfl, _⟩ := trodAll_one hA0
  rfl

theorem valueParses_holds : Rows.ValueParsesSaid :=
  OpenClaim.holds_of_wide f_hedgerowlaw01_ValueParses Tryd.f4 rfl rfl rfl rfl rfl rfl rfl ⟨rfl, rfl, rfl, rfl, rfl⟩ rfl rfl rfl rfl rfl (by kernel_rfl) Tryd.func4 (by kernel_rfl)
    (of_decide_eq_true (by kernel_rfl)) (by unfold Func.isWrapper; first | (rw [if_pos (by decide +kernel)]; kernel_rfl) | (rw [if_neg (by decide +kernel)]; exact ⟨rfl, rfl⟩))
    (fun os started H enc _ => valueParses_lifted os started H enc)

theorem valueParses_card : Rows.ValueParsesCardSaid :=
  Claim7.holds_tied_plain_at .later [] [.data, .data, .data, .data, .sentinel, .sentinel, .pinned] true (true, "f91aeffde1d0222e0525b9614093ed8f7eb72bd1c51c46af4216f8456557952a") true valueParses_holds (fun _ h => by cases h) (by kernel_rfl) (fun _ h => by cases h) valueParses_row_tie rfl ⟨rfl, rfl⟩ (by kernel_rfl) rfl
    (fun f fn hf hfn => by
      obtain rfl : f = 4 := Option.some.inj ((show Tryd.prog.funcNamed "hedgerow/hedgerowlaw01.ValueParses" = some 4 by kernel_rfl).symm.trans hf) |>.symm
      obtain rfl : fn = Tryd.f4 := (Option.some.inj (Tryd.func4.symm.trans hfn)).symm
      exact ⟨by kernel_rfl, fun j t ht => by
        have hm : t ∈ Tryd.f4.params.toList := by simpa using Array.mem_of_getElem? ht
        have hall : (Tryd.f4.params.toList.all fun u => !Tryd.prog.wantsStandIn u) = true := by kernel_rfl
        exact (show Tryd.prog.wantsStandIn t = false by simpa using List.all_eq_true.1 hall t hm)⟩)
    (by kernel_rfl)

end Go.Proofs.YtbcdhjalciljaaaDoor
