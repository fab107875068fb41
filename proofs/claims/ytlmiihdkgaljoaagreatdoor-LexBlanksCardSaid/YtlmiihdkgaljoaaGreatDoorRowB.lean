/- Own work, over the shadow machine: LRowB. -/
import Derived.Test.YtlmiihdkgaljoaaGreatDoorRowC
import Derived.Test.YtlmiihdkgaljoaaGreatDoorSp11
set_option linter.all false
namespace Go.Proofs.YtlmiihdkgaljoaaGreatDoor
open Go.Sh Go.ChangeShapes Go.WideShapes Go.ChangeAt Go.RowKit
set_option maxRecDepth 100000

theorem fits_tk {c : List GV} (h : Fits (.row [.int .i64, .int .i64, .str]) c) : ∃ v : Tk, mkG (.row [.int .i64, .int .i64, .str]) c = tkG v ∧ (-9223372036854775808 ≤ v.2.1 ∧ v.2.1 ≤ 9223372036854775807 ∧ v.2.2.length ≤ 9223372036854775807) := by
  obtain ⟨k, n, s, e, hs, h1, h2⟩ := fits_val h
  refine ⟨(k, n, s.data.toList), ?_, h1, h2, by rw [bs_size] at hs; exact hs⟩
  have : (⟨s.data.toList.toArray⟩ : ByteArray) = s := ba_ext (by simp)
  rw [e]; simp only [tkG, tokG, this]

theorem fits_u8 {c : List GV} (h : Fits (.int .u8) c) : ∃ x : Int, mkG (.int .u8) c = u8i x ∧ (0 ≤ x ∧ x ≤ 255) := by
  obtain ⟨a, e, ba⟩ := fits_int h
  simp [IntKind.min, IntKind.max, IntKind.signed, IntKind.bits] at ba
  exact ⟨a, e, ba⟩

theorem lexBlanks_args (gargs : List GV) (h : ArgsFit [.slice (.row [.int .i64, .int .i64, .str]), .slice (.int .u8)] gargs) : ∃ H', ecall T f_hedgerowlaw18_LexBlanks gargs (isoH Tryz.prog.globals.size) = some (.bool true, H') := by
  cases h with
  | cons h1 t1 =>
    cases t1 with
    | cons h2 t2 =>
      cases t2
      obtain ⟨L, hu, hp, hl⟩ := fits_list (f := tkG) (fun c hc => fits_tk hc) h1
      obtain ⟨B, hv, hq, hm⟩ := fits_list (f := u8i) (fun c hc => fits_u8 hc) h2
      exact ⟨_, blanks_ok L _ hu hp (by unfold maxLen at hl; omega) B _ hv hq (by unfold maxLen at hm; omega) _⟩

theorem lexBlanks_lifted (os : Os) (started : os.Started) (H : Type) (enc : TypeId × Value → H) :
    ReturnsInHanded {} Tryz.checked os f_hedgerowlaw18_LexBlanks .any (fun w args => (Rows.lexBlanksSpec.pre enc Tryz.prog Tryz.f4 Rows.lexBlanksRow.domain false w args ∧ laidMetH Tryz.prog Rows.lexBlanksRow.laid w) ∧ sizedMet enc Tryz.prog Tryz.f4 (OpenSpec.ofChange Rows.lexBlanksSpec) false w args)
      (Rows.lexBlanksSpec.post enc Tryz.prog Tryz.f4 false true false false) := by
  refine handed_both (C := Tryz.checked) (X := fun w _ => laidMetH Tryz.prog Rows.lexBlanksRow.laid w) (fun _ _ _ hh h => h.of_heap hh) own0 started (by kernel_rfl) Tryz.func4
    (ChangeSpec.witness_shaped (enc := enc) (C := Tryz.checked) (os := os) (X := fun w _ => laidMetH Tryz.prog Rows.lexBlanksRow.laid w) false (World.laidAll Tryz.prog os Rows.lexBlanksRow.laid) #[.slice none 0 0, .slice none 0 0] 8 (World.laidAll_os _ _ _)
      (World.shaped_of_ZipB (by kernel_rfl) (by kernel_rfl)) (by kernel_rfl) (by kernel_rfl) (by kernel_rfl)
      (by rw [MakeChecks.laidMetH_plain _ _ _ (by kernel_rfl)]; exact laidMet_laidAll _ (by kernel_rfl) (by kernel_rfl))) ?_
  intro W base args ds gs before hval hW hc hL hS
  refine law_contract (P := Tryz.prog) mixed0 T_ok laid0 T_hedgerowlaw18_LexBlanks (by decide) (f := Tryz.f4) (s := Rows.lexBlanksSpec) (n := 20) (by kernel_rfl) (show _ = some [Shape.slice (.row [.int .i64, .int .i64, .str]), Shape.slice (.int .u8)] from by kernel_rfl) rfl (by kernel_rfl) rfl ?_ lexBlanks_args hval (facts_of hL hS) hW
  obtain ⟨p, q, hA, hV, _⟩ := hW
  obtain ⟨rfl, _⟩ := trodVars_none hV
  have hA0 : DataW.TrodAll enc Tryz.prog W 0 (fun _ => true) true Tryz.f4.params.toList args.toList ds p := hA
  rw [Tryz.params4] at hA0
  obtain ⟨_, _, _, _, _, _, _, rfl, _⟩ := trodAll_two hA0
  rfl

theorem lexBlanks_holds : Rows.LexBlanksSaid :=
  OpenClaim.holds_of_wide f_hedgerowlaw18_LexBlanks Tryz.f4 rfl rfl rfl rfl rfl rfl rfl ⟨rfl, rfl, rfl, rfl, rfl⟩ rfl rfl rfl rfl rfl (by kernel_rfl) Tryz.func4 (by kernel_rfl)
    (of_decide_eq_true (by kernel_rfl)) (by unfold Func.isWrapper; first | (rw [if_pos (by decide +kernel)]; kernel_rfl) | (rw [if_neg (by decide +kernel)]; exact ⟨rfl, rfl⟩))
    (fun os started H enc _ => lexBlanks_lifted os started H enc)

theorem lexBlanks_card : Rows.LexBlanksCardSaid :=
  Claim7.holds_tied_plain_at .later [] [.data, .data, .data, .data, .sentinel, .sentinel, .pinned] true (true, "62df8fa00f3f0d13ce755ea89123ac7ea0daa58a3c0a68ab8480832012916d3a") true lexBlanks_holds (fun _ h => by cases h) (by kernel_rfl) (fun _ h => by cases h) lexBlanks_row_tie rfl ⟨rfl, rfl⟩ (by kernel_rfl) rfl
    (fun f fn hf hfn => by
      obtain rfl : f = 4 := Option.some.inj ((show Tryz.prog.funcNamed "hedgerow/hedgerowlaw18.LexBlanks" = some 4 by kernel_rfl).symm.trans hf) |>.symm
      obtain rfl : fn = Tryz.f4 := (Option.some.inj (Tryz.func4.symm.trans hfn)).symm
      exact ⟨by kernel_rfl, fun j t ht => by
        have hm : t ∈ Tryz.f4.params.toList := by simpa using Array.mem_of_getElem? ht
        have hall : (Tryz.f4.params.toList.all fun u => !Tryz.prog.wantsStandIn u) = true := by kernel_rfl
        exact (show Tryz.prog.wantsStandIn t = false by simpa using List.all_eq_true.1 hall t hm)⟩)
    (by kernel_rfl)

end Go.Proofs.YtlmiihdkgaljoaaGreatDoor
