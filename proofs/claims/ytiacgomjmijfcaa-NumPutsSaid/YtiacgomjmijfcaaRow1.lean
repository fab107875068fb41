/- Own work, over the shadow machine: NumRow. -/
import Derived.Test.YtiacgomjmijfcaaNum10
import Derived.Test.YtiacgomjmijfcaaShF
import Derived.Test.YtiacgomjmijfcaaRows
set_option linter.all false
namespace Go.Proofs.Ytiacgomjmijfcaa
open Go.Sh Go.ChangeShapes Go.WideShapes Go.RowKit
set_option maxRecDepth 100000

theorem own0 : ownKnob Try.prog.godebug = none := by kernel_rfl
theorem laid0 : laidOutB Try.prog = true := by kernel_rfl
theorem mixed0 : Try.prog.follows .mixedOrders = true := by kernel_rfl
theorem bo0 : (isoH Try.prog.globals.size).bo ≤ (isoH Try.prog.globals.size).objs.length := by simp [isoH]
theorem bt0 : (isoH Try.prog.globals.size).bt ≤ (isoH Try.prog.globals.size).toks.length := Nat.le_refl _

/-! ### NumSizes -/

theorem sizes_args (gargs : List GV) (h : ArgsFit [.int .i64, .int .i64] gargs) : ∃ H', ecall T f_hedgerowlaw02_NumSizes gargs (isoH Try.prog.globals.size) = some (.bool true, H') := by
  cases h with
  | cons h1 t1 =>
    cases t1 with
    | cons h2 t2 =>
      cases t2
      obtain ⟨a, e1, _⟩ := fits_int h1
      obtain ⟨b, e2, _⟩ := fits_int h2
      rw [e1, e2]
      exact sizes_law a b _ bt0

theorem sizes_lifted (os : Os) (started : os.Started) (H : Type) (enc : TypeId × Value → H) :
    ReturnsInHanded {} Try.checked os f_hedgerowlaw02_NumSizes .any (Rows.numSizesSpec.pre6 enc Try.prog Try.f4 Rows.numSizesRow.domain false) (Rows.numSizesSpec.post enc Try.prog Try.f4 false true false false) := by
  refine returnsInHanded_of_change (C := Try.checked) own0 started (by kernel_rfl) Try.func4
    (ChangeSpec.witness6 (enc := enc) (C := Try.checked) false ⟨#[], #[.int .i64 0, .int .i64 0], []⟩ 8 (by kernel_rfl) (by kernel_rfl) (by kernel_rfl) (by kernel_rfl)) ?_
  intro W base args ds gs before hval hW hcnd _
  refine law_contract (P := Try.prog) mixed0 T_ok laid0 (f := Try.f4) (s := Rows.numSizesSpec) (ss := [.int .i64, .int .i64]) (n := 20) (by kernel_rfl) (by kernel_rfl) rfl (by kernel_rfl) rfl ?_ sizes_args hval hW
  obtain ⟨p, q, hA, hV, _⟩ := hW
  obtain ⟨rfl, _⟩ := trodVars_none hV
  have hA0 : DataW.TrodAll enc Try.prog W 0 (fun _ => true) true Try.f4.params.toList args.toList ds p := hA
  rw [Try.params4] at hA0
  obtain ⟨_, _, _, _, _, _, _, rfl, _⟩ := trodAll_two hA0
  rfl

theorem numSizes_holds : Rows.NumSizesSaid :=
  OpenClaim.holds_of_wide f_hedgerowlaw02_NumSizes Try.f4 rfl rfl rfl rfl rfl rfl rfl ⟨rfl, rfl, rfl, rfl, rfl⟩ rfl rfl rfl rfl rfl (by kernel_rfl) Try.func4 (by kernel_rfl)
    (of_decide_eq_true (by kernel_rfl)) (by unfold Func.isWrapper; first | (rw [if_pos (by decide +kernel)]; kernel_rfl) | (rw [if_neg (by decide +kernel)]; exact ⟨rfl, rfl⟩))
    (fun os started H enc _ => sizes_lifted os started H enc)

/-! ### NumRows -/

theorem rows_args (gargs : List GV) (h : ArgsFit [.slice (.int .i64)] gargs) : ∃ H', ecall T f_hedgerowlaw02_NumRows gargs (isoH Try.prog.globals.size) = some (.bool true, H') := by
  cases h with
  | cons h1 t1 =>
    cases t1
    obtain ⟨L, e1, _, _⟩ := fits_list (fun c hc => fits_int hc) h1
    exact rows_law L _ e1 _ bt0 bo0

theorem rows_lifted (os : Os) (started : os.Started) (H : Type) (enc : TypeId × Value → H) :
    ReturnsInHanded {} Try.checked os f_hedgerowlaw02_NumRows .any (Rows.numRowsSpec.pre6 enc Try.prog Try.f5 Rows.numRowsRow.domain false) (Rows.numRowsSpec.post enc Try.prog Try.f5 false true false false) := by
  refine returnsInHanded_of_change (C := Try.checked) own0 started (by kernel_rfl) Try.func5
    (ChangeSpec.witness6 (enc := enc) (C := Try.checked) false ⟨#[], #[.slice none 0 0], []⟩ 8 (by kernel_rfl) (by kernel_rfl) (by kernel_rfl) (by kernel_rfl)) ?_
  intro W base args ds gs before hval hW hcnd _
  refine law_contract (P := Try.prog) mixed0 T_ok laid0 (f := Try.f5) (s := Rows.numRowsSpec) (ss := [.slice (.int .i64)]) (n := 20) (by kernel_rfl) (by kernel_rfl) rfl (by kernel_rfl) rfl ?_ rows_args hval hW
  obtain ⟨p, q, hA, hV, _⟩ := hW
  obtain ⟨rfl, _⟩ := trodVars_none hV
  have hA0 : DataW.TrodAll enc Try.prog W 0 (fun _ => true) true Try.f5.params.toList args.toList ds p := hA
  rw [Try.params5] at hA0
  obtain ⟨_, _, _, rfl, _⟩ := trodAll_one hA0
  rfl

theorem numRows_holds : Rows.NumRowsSaid :=
  OpenClaim.holds_of_wide f_hedgerowlaw02_NumRows Try.f5 rfl rfl rfl rfl rfl rfl rfl ⟨rfl, rfl, rfl, rfl, rfl⟩ rfl rfl rfl rfl rfl (by kernel_rfl) Try.func5 (by kernel_rfl)
    (of_decide_eq_true (by kernel_rfl)) (by unfold Func.isWrapper; first | (rw [if_pos (by decide +kernel)]; kernel_rfl) | (rw [if_neg (by decide +kernel)]; exact ⟨rfl, rfl⟩))
    (fun os started H enc _ => rows_lifted os started H enc)

/-! ### NumPuts -/

theorem u8_bounds {L : List Int} (h : ∀ n ∈ L, IntKind.u8.min ≤ n ∧ n ≤ IntKind.u8.max) : isB L := fun n hn => by
  have := h n hn
  simpa [IntKind.min, IntKind.max, IntKind.signed, IntKind.bits] using this

theorem puts_args (gargs : List GV) (h : ArgsFit [.slice (.int .u8), .int .i64, .str] gargs) : ∃ H', ecall T f_hedgerowlaw02_NumPuts gargs (isoH Try.prog.globals.size) = some (.bool true, H') := by
  cases h with
  | cons h1 t1 =>
    cases t1 with
    | cons h2 t2 =>
      cases t2 with
      | cons h3 t3 =>
        cases t3
        obtain ⟨L, e1, b1, _⟩ := fits_list (fun c hc => fits_int hc) h1
        obtain ⟨n, e2, _⟩ := fits_int h2
        obtain ⟨s, e3, _⟩ := fits_str h3
        rw [e2, e3]
        exact puts_law L _ e1 (u8_bounds b1) n s _ bt0 bo0

theorem puts_lifted (os : Os) (started : os.Started) (H : Type) (enc : TypeId × Value → H) :
    ReturnsInHanded {} Try.checked os f_hedgerowlaw02_NumPuts .any (Rows.numPutsSpec.pre6 enc Try.prog Try.f3 Rows.numPutsRow.domain false) (Rows.numPutsSpec.post enc Try.prog Try.f3 false true false false) := by
  refine returnsInHanded_of_change (C := Try.checked) own0 started (by kernel_rfl) Try.func3
    (ChangeSpec.witness6 (enc := enc) (C := Try.checked) false ⟨#[], #[.slice none 0 0, .int .i64 0, .string .empty], []⟩ 8 (by kernel_rfl) (by kernel_rfl) (by kernel_rfl) (by kernel_rfl)) ?_
  intro W base args ds gs before hval hW hcnd _
  refine law_contract (P := Try.prog) mixed0 T_ok laid0 (f := Try.f3) (s := Rows.numPutsSpec) (ss := [.slice (.int .u8), .int .i64, .str]) (n := 20) (by kernel_rfl) (by kernel_rfl) rfl (by kernel_rfl) rfl ?_ puts_args hval hW
  obtain ⟨p, q, hA, hV, _⟩ := hW
  obtain ⟨rfl, _⟩ := trodVars_none hV
  have hA0 : DataW.TrodAll enc Try.prog W 0 (fun _ => true) true Try.f3.params.toList args.toList ds p := hA
  rw [Try.params3] at hA0
  obtain ⟨_, _, _, _, _, _, _, _, _, _, rfl, _⟩ := trodAll_three hA0
  rfl

theorem numPuts_holds : Rows.NumPutsSaid :=
  OpenClaim.holds_of_wide f_hedgerowlaw02_NumPuts Try.f3 rfl rfl rfl rfl rfl rfl rfl ⟨rfl, rfl, rfl, rfl, rfl⟩ rfl rfl rfl rfl rfl (by kernel_rfl) Try.func3 (by kernel_rfl)
    (of_decide_eq_true (by kernel_rfl)) (by unfold Func.isWrapper; first | (rw [if_pos (by decide +kernel)]; kernel_rfl) | (rw [if_neg (by decide +kernel)]; exact ⟨rfl, rfl⟩))
    (fun os started H enc _ => puts_lifted os started H enc)

/-! ### NumReads -/

theorem fits_act {c : List GV} (h : Fits (.row [.int .u8, .int .i64]) c) : ∃ a : Int × Int, mkG (.row [.int .u8, .int .i64]) c = .agg [.int .u8 a.1, .int .i64 a.2] ∧ (0 ≤ a.1 ∧ a.1 ≤ 255) := by
  obtain ⟨x, y, rfl, h1, h2⟩ := fits_row1 h
  obtain ⟨z, w, rfl, h3, h4⟩ := fits_row1 h2
  obtain rfl := fits_row0 h4
  cases h1 with
  | int _ n hn =>
    cases h3 with
    | int _ m hm =>
      exact ⟨(n, m), rfl, by simpa [IntKind.min, IntKind.max, IntKind.signed, IntKind.bits] using hn⟩

theorem reads_args (gargs : List GV) (h : ArgsFit [.slice (.int .u8), .slice (.row [.int .u8, .int .i64])] gargs) : ∃ H', ecall T f_hedgerowlaw02_NumReads gargs (isoH Try.prog.globals.size) = some (.bool true, H') := by
  cases h with
  | cons h1 t1 =>
    cases t1 with
    | cons h2 t2 =>
      cases t2
      obtain ⟨L, e1, b1, _⟩ := fits_list (fun c hc => fits_int hc) h1
      obtain ⟨M, e2, b2, _⟩ := fits_list (fun c hc => fits_act hc) h2
      exact reads_law L _ e1 (u8_bounds b1) M _ e2 b2 _ bt0 bo0

theorem reads_lifted (os : Os) (started : os.Started) (H : Type) (enc : TypeId × Value → H) :
    ReturnsInHanded {} Try.checked os f_hedgerowlaw02_NumReads .any (Rows.numReadsSpec.pre6 enc Try.prog Try.f6 Rows.numReadsRow.domain false) (Rows.numReadsSpec.post enc Try.prog Try.f6 false true false false) := by
  refine returnsInHanded_of_change (C := Try.checked) own0 started (by kernel_rfl) Try.func6
    (ChangeSpec.witness6 (enc := enc) (C := Try.checked) false ⟨#[], #[.slice none 0 0, .slice none 0 0], []⟩ 8 (by kernel_rfl) (by kernel_rfl) (by kernel_rfl) (by kernel_rfl)) ?_
  intro W base args ds gs before hval hW hcnd _
  refine law_contract (P := Try.prog) mixed0 T_ok laid0 (f := Try.f6) (s := Rows.numReadsSpec) (ss := [.slice (.int .u8), .slice (.row [.int .u8, .int .i64])]) (n := 20) (by kernel_rfl) (by kernel_rfl) rfl (by kernel_rfl) rfl ?_ reads_args hval hW
  obtain ⟨p, q, hA, hV, _⟩ := hW
  obtain ⟨rfl, _⟩ := trodVars_none hV
  have hA0 : DataW.TrodAll enc Try.prog W 0 (fun _ => true) true Try.f6.params.toList args.toList ds p := hA
  rw [Try.params6] at hA0
  obtain ⟨_, _, _, _, _, _, _, rfl, _⟩ := trodAll_two hA0
  rfl

theorem numReads_holds : Rows.NumReadsSaid :=
  OpenClaim.holds_of_wide f_hedgerowlaw02_NumReads Try.f6 rfl rfl rfl rfl rfl rfl rfl ⟨rfl, rfl, rfl, rfl, rfl⟩ rfl rfl rfl rfl rfl (by kernel_rfl) Try.func6 (by kernel_rfl)
    (of_decide_eq_true (by kernel_rfl)) (by unfold Func.isWrapper; first | (rw [if_pos (by decide +kernel)]; kernel_rfl) | (rw [if_neg (by decide +kernel)]; exact ⟨rfl, rfl⟩))
    (fun os started H enc _ => reads_lifted os started H enc)

end Go.Proofs.Ytiacgomjmijfcaa
