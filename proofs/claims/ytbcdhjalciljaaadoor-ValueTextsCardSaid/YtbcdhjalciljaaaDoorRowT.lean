/- Own work, over the shadow machine: VRowT. -/
import Derived.Test.YtbcdhjalciljaaaDoorRowC
set_option linter.all false
namespace Go.Proofs.YtbcdhjalciljaaaDoor
open Go.Sh Go.ChangeShapes Go.WideShapes Go.ChangeAt Go.RowKit
set_option maxRecDepth 100000

theorem valueTexts_args (gargs : List GV) (h : ArgsFit [.row [.int .i64, .int .i64, .str]] gargs) : ∃ H', ecall T f_hedgerowlaw01_ValueTexts gargs (isoH Tryd.prog.globals.size) = some (.bool true, H') := by
  cases h with
  | cons h1 t1 =>
    cases t1
    obtain ⟨k, n, s, e1, _, h2, h3⟩ := fits_val h1
    rw [e1]
    exact ⟨_, texts_ok k n s h2 h3 _⟩

theorem valueTexts_lifted (os : Os) (started : os.Started) (H : Type) (enc : TypeId × Value → H) :
    ReturnsInHanded {} Tryd.checked os f_hedgerowlaw01_ValueTexts .any (fun w args => (Rows.valueTextsSpec.pre enc Tryd.prog Tryd.f3 Rows.valueTextsRow.domain false w args ∧ laidMetH Tryd.prog Rows.valueTextsRow.laid w) ∧ sizedMet enc Tryd.prog Tryd.f3 (OpenSpec.ofChange Rows.valueTextsSpec) false w args)
      (Rows.valueTextsSpec.post enc Tryd.prog Tryd.f3 false true false false) := by
  refine handed_both (C := Tryd.checked) (X := fun w _ => laidMetH Tryd.prog Rows.valueTextsRow.laid w) (fun _ _ _ hh h => h.of_heap hh) own0 started (by kernel_rfl) Tryd.func3
    (ChangeSpec.witness_shaped (enc := enc) (C := Tryd.checked) (os := os) (X := fun w _ => laidMetH Tryd.prog Rows.valueTextsRow.laid w) false (World.laidAll Tryd.prog os Rows.valueTextsRow.laid) #[.agg #[.int .i64 0, .int .i64 0, .string .empty]] 8 (World.laidAll_os _ _ _)
      (World.shaped_of_ZipB (by kernel_rfl) (by kernel_rfl)) (by kernel_rfl) (by kernel_rfl) (by kernel_rfl)
      (by rw [MakeChecks.laidMetH_plain _ _ _ (by kernel_rfl)]; exact laidMet_laidAll _ (by kernel_rfl) (by kernel_rfl))) ?_
  intro W base args ds gs before hval hW hc hL hS
  refine law_contract (P := Tryd.prog) mixed0 T_ok laid0 T_hedgerowlaw01_ValueTexts (by decide) (f := Tryd.f3) (s := Rows.valueTextsSpec) (n := 20) (by kernel_rfl) (show _ = some [Shape.row [.int .i64, .int .i64, .str]] from by kernel_rfl) rfl (by kernel_rfl) rfl ?_ valueTexts_args hval (facts_of hL hS) hW
  obtain ⟨p, q, hA, hV, _⟩ := hW
  obtain ⟨rfl, _⟩ := trodVars_none hV
  have hA0 : DataW.TrodAll enc Tryd.prog W 0 (fun _ => true) true Tryd.f3.params.toList args.toList ds p := hA
  rw [Tryd.params3] at hA0
  obtain ⟨_, _, _, rfl, _⟩ := trodAll_one hA0
  rfl

theorem valueTexts_holds : Rows.ValueTextsSaid :=
  OpenClaim.holds_of_wide f_hedgerowlaw01_ValueTexts Tryd.f3 rfl rfl rfl rfl rfl rfl rfl ⟨rfl, rfl, rfl, rfl, rfl⟩ rfl rfl rfl rfl rfl (by kernel_rfl) Tryd.func3 (by kernel_rfl)
    (of_decide_eq_true (by kernel_rfl)) (by unfold Func.isWrapper; first | (rw [if_pos (by decide +kernel)]; kernel_rfl) | (rw [if_neg (by decide +kernel)]; exact ⟨rfl, rfl⟩))
    (fun os started H enc _ => valueTexts_lifted os started H enc)

theorem valueTexts_card : Rows.ValueTextsCardSaid :=
  Claim7.holds_tied_plain_at .later [] [.data, .data, .data, .data, .sentinel, .sentinel, .pinned] true (true, "f91aeffde1d0222e0525b9614093ed8f7eb72bd1c51c46af4216f8456557952a") true valueTexts_holds (fun _ h => by cases h) (by kernel_rfl) (fun _ h => by cases h) valueTexts_row_tie rfl ⟨rfl, rfl⟩ (by kernel_rfl) rfl
    (fun f fn hf hfn => by
      obtain rfl : f = 3 := Option.some.inj ((show Tryd.prog.funcNamed "hedgerow/hedgerowlaw01.ValueTexts" = some 3 by kernel_rfl).symm.trans hf) |>.symm
      obtain rfl : fn = Tryd.f3 := (Option.some.inj (Tryd.func3.symm.trans hfn)).symm
      exact ⟨by kernel_rfl, fun j t ht => by
        have hm : t ∈ Tryd.f3.params.toList := by simpa using Array.mem_of_getElem? ht
        have hall : (Tryd.f3.params.toList.all fun u => !Tryd.prog.wantsStandIn u) = true := by kernel_rfl
        exact (show Tryd.prog.wantsStandIn t = false by simpa using List.all_eq_true.1 hall t hm)⟩)
    (by kernel_rfl)

end Go.Proofs.YtbcdhjalciljaaaDoor
