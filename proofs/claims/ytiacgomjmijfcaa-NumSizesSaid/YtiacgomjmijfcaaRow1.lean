/- Own work, over the shadow machine: NumRow. -/
import Derived.Test.YtiacgomjmijfcaaNum7
import Derived.Test.YtiacgomjmijfcaaShF
import Derived.Test.YtiacgomjmijfcaaRows
set_option linter.all false
namespace Go.Proofs.Ytiacgomjmijfcaa
open Go.Sh Go.ChangeShapes Go.WideShapes Go.RowKit
set_option maxRecDepth 100000

theorem own0 : ownKnob Try.prog.godebug = none := by kernel_rfl
theorem laid0 : laidOutB Try.prog = true := by kernel_rfl
theorem mixed0 : Try.prog.follows .mixedOrders = true := by kernel_rfl

theorem sizes_args (gargs : List GV) (h : ArgsFit [.int .i64, .int .i64] gargs) : ∃ H', ecall T f_hedgerowlaw02_NumSizes gargs (isoH Try.prog.globals.size) = some (.bool true, H') := by
  cases h with
  | cons h1 t1 =>
    cases t1 with
    | cons h2 t2 =>
      cases t2
      cases h1 with
      | int _ a ha =>
        cases h2 with
        | int _ b hb =>
          exact sizes_law a b _ (Nat.le_refl _)

theorem sizes_lifted (os : Os) (started : os.Started) (H : Type) (enc : TypeId × Value → H) :
    ReturnsInHanded {} Try.checked os f_hedgerowlaw02_NumSizes .any (Rows.numSizesSpec.pre6 enc Try.prog Try.f4 Rows.numSizesRow.domain false) (Rows.numSizesSpec.post enc Try.prog Try.f4 false true false false) := by
  refine returnsInHanded_of_change (C := Try.checked) own0 started (by kernel_rfl) Try.func4
    (ChangeSpec.witness6 (enc := enc) (C := Try.checked) false ⟨#[], #[.int .i64 0, .int .i64 0], []⟩ 8 (by kernel_rfl) (by kernel_rfl) (by kernel_rfl) (by kernel_rfl)) ?_
  intro W base args ds gs before hval hW hcnd _
  refine law_contract (P := Try.prog) mixed0 T_ok laid0 (f := Try.f4) (s := Rows.numSizesSpec) (ss := [.int .i64, .int .i64]) (n := 20) (by kernel_rfl) (by kernel_rfl) rfl (by kernel_rfl) rfl ?_ sizes_args hval hW
  obtain ⟨p, q, hA, hV, _⟩ := hW
  obtain ⟨rfl, _⟩ := trodVars_none hV
  have hA0 : DataW.TrodAll enc Try.prog W 0 (fun _ => true) true Try.f4.params.toList args.toList ds p := hA
  rw [Try.params4] at hA0
  obtain ⟨_, _, _, _, _, _, _, rfl, _⟩ := trodAll_two hA0
  rfl

theorem numSizes_holds : Rows.NumSizesSaid :=
  OpenClaim.holds_of_wide f_hedgerowlaw02_NumSizes Try.f4 rfl rfl rfl rfl rfl rfl rfl ⟨rfl, rfl, rfl, rfl, rfl⟩ rfl rfl rfl rfl rfl (by kernel_rfl) Try.func4 (by kernel_rfl)
    (of_decide_eq_true (by kernel_rfl)) (by unfold Func.isWrapper; first | (rw [if_pos (by decide +kernel)]; kernel_rfl) | (rw [if_neg (by decide +kernel)]; exact ⟨rfl, rfl⟩))
    (fun os started H enc _ => sizes_lifted os started H enc)

end Go.Proofs.Ytiacgomjmijfcaa
