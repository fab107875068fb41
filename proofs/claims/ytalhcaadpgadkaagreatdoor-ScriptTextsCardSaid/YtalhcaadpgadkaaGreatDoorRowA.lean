/- Own work, over the shadow machine: SRowA. -/
import Derived.Test.YtalhcaadpgadkaaGreatDoorRowC
import Derived.Test.YtalhcaadpgadkaaGreatDoorSp6
set_option linter.all false
namespace Go.Proofs.YtalhcaadpgadkaaGreatDoor
open Go.Sh Go.ChangeShapes Go.WideShapes Go.ChangeAt Go.RowKit
set_option maxRecDepth 100000

abbrev chgSh : Shape := .row [.int .i64, .row [.int .i64, .str, .str, .str, .str], .row [.int .i64, .int .i64, .str]]

theorem eta_str (s : ByteArray) : GV.str s = .str (mkB s.data.toList) := by rw [mkB_eta]
theorem size_le {s : ByteArray} (h : s.size ≤ strMost) : s.data.toList.length ≤ 1125899906842624 := by
  rw [bs_size] at h; unfold strMost at h; omega

theorem fits_chg {c : List GV} (h : Fits chgSh c) : ∃ x : Chg, mkG chgSh c = chgG x ∧ CBig x := by
  cases h with
  | rcons _ _ _ _ h1 t1 =>
    cases t1 with
    | rcons _ _ _ _ h2 t2 =>
      cases t2 with
      | rcons _ _ _ _ h3 t3 =>
        cases t3
        cases h1
        cases h2 with
        | rcons _ _ _ _ e1 u1 =>
        cases u1 with
        | rcons _ _ _ _ e2 u2 =>
        cases u2 with
        | rcons _ _ _ _ e3 u3 =>
        cases u3 with
        | rcons _ _ _ _ e4 u4 =>
        cases u4 with
        | rcons _ _ _ _ e5 u5 =>
        cases u5
        cases h3 with
        | rcons _ _ _ _ d1 w1 =>
        cases w1 with
        | rcons _ _ _ _ d2 w2 =>
        cases w2 with
        | rcons _ _ _ _ d3 w3 =>
        cases w3
        cases e1; cases e2; cases e3; cases e4; cases e5; cases d1; cases d2; cases d3
        rename_i op _ ek _ a ha b hb c hc d hd vk _ vn hvn vt hvt
        simp [IntKind.min, IntKind.max, IntKind.signed, IntKind.bits] at hvn
        refine ⟨⟨op, ek, a.data.toList, b.data.toList, c.data.toList, d.data.toList, vk, vn, vt.data.toList⟩, ?_, ⟨size_le ha, size_le hb, size_le hc, size_le hd, size_le hvt, hvn.1, hvn.2⟩⟩
        simp only [mkG, chgG, chgC, mkB_eta]
        rfl

theorem scriptChanges_args (gargs : List GV) (h : ArgsFit [chgSh, .str] gargs) : ∃ H', ecall T f_hedgerowlaw29_ScriptChanges gargs (isoH Tryz.prog.globals.size) = some (.bool true, H') := by
  cases h with
  | cons h1 t1 =>
    cases t1 with
    | cons h2 t2 =>
      cases t2
      obtain ⟨x, hx, bx⟩ := fits_chg h1
      obtain ⟨s, e1, _⟩ := fits_str h2
      rw [hx, e1, eta_str]
      exact ⟨_, changes_ok x bx _ _⟩

theorem scriptChanges_lifted (os : Os) (started : os.Started) (H : Type) (enc : TypeId × Value → H) :
    ReturnsInHanded {} Tryz.checked os f_hedgerowlaw29_ScriptChanges .any (fun w args => (Rows.scriptChangesSpec.pre enc Tryz.prog Tryz.f5 Rows.scriptChangesRow.domain false w args ∧ laidMetH Tryz.prog Rows.scriptChangesRow.laid w) ∧ sizedMet enc Tryz.prog Tryz.f5 (OpenSpec.ofChange Rows.scriptChangesSpec) false w args)
      (Rows.scriptChangesSpec.post enc Tryz.prog Tryz.f5 false true false false) := by
  refine handed_both (C := Tryz.checked) (X := fun w _ => laidMetH Tryz.prog Rows.scriptChangesRow.laid w) (fun _ _ _ hh h => h.of_heap hh) own0 started (by kernel_rfl) Tryz.func5
    (ChangeSpec.witness_shaped (enc := enc) (C := Tryz.checked) (os := os) (X := fun w _ => laidMetH Tryz.prog Rows.scriptChangesRow.laid w) false (World.laidAll Tryz.prog os Rows.scriptChangesRow.laid) #[.agg #[.int .i64 0, .int .i64 0, .string .empty, .string .empty, .string .empty, .string .empty, .int .i64 0, .int .i64 0, .string .empty], .string .empty] 8 (World.laidAll_os _ _ _)
      (World.shaped_of_ZipB (by kernel_rfl) (by kernel_rfl)) (by kernel_rfl) (by kernel_rfl) (by kernel_rfl)
      (by rw [MakeChecks.laidMetH_plain _ _ _ (by kernel_rfl)]; exact laidMet_laidAll _ (by kernel_rfl) (by kernel_rfl))) ?_
  intro W base args ds gs before hval hW hc hL hS
  refine law_contract (P := Tryz.prog) mixed0 T_ok laid0 T_hedgerowlaw29_ScriptChanges (by decide) (f := Tryz.f5) (s := Rows.scriptChangesSpec) (n := 20) (by kernel_rfl) (show _ = some [chgSh, Shape.str] from by kernel_rfl) rfl (by kernel_rfl) rfl ?_ scriptChanges_args hval (facts_of hL hS) hW hc
  obtain ⟨p, q, hA, hV, _⟩ := hW
  obtain ⟨rfl, _⟩ := trodVars_none hV
  have hA0 : DataW.TrodAll enc Tryz.prog W 0 (fun _ => true) true Tryz.f5.params.toList args.toList ds p := hA
  rw [Tryz.params5] at hA0
  obtain ⟨_, _, _, _, _, _, _, rfl, _⟩ := trodAll_two hA0
  rfl

theorem scriptChanges_holds : Rows.ScriptChangesSaid :=
  OpenClaim.holds_of_wide f_hedgerowlaw29_ScriptChanges Tryz.f5 rfl rfl rfl rfl rfl rfl rfl ⟨rfl, rfl, rfl, rfl, rfl⟩ rfl rfl rfl rfl rfl (by kernel_rfl) Tryz.func5 (by kernel_rfl)
    (of_decide_eq_true (by kernel_rfl)) (by unfold Func.isWrapper; first | (rw [if_pos (by decide +kernel)]; kernel_rfl) | (rw [if_neg (by decide +kernel)]; exact ⟨rfl, rfl⟩))
    (fun os started H enc _ => scriptChanges_lifted os started H enc)

theorem scriptChanges_card : Rows.ScriptChangesCardSaid :=
  Claim7.holds_tied_plain_at .later [] [.data, .data, .data, .data, .sentinel, .sentinel, .pinned] true (true, "1a877b436b497242a5b08b8bb77b546c7ecc7f0b12f0541fc413bc3a5bd155a1") true scriptChanges_holds (fun _ h => by cases h) (by kernel_rfl) (fun _ h => by cases h) scriptChanges_row_tie rfl ⟨rfl, rfl⟩ (by kernel_rfl) rfl
    (fun f fn hf hfn => by
      obtain rfl : f = 5 := Option.some.inj ((show Tryz.prog.funcNamed "hedgerow/hedgerowlaw29.ScriptChanges" = some 5 by kernel_rfl).symm.trans hf) |>.symm
      obtain rfl : fn = Tryz.f5 := (Option.some.inj (Tryz.func5.symm.trans hfn)).symm
      exact ⟨by kernel_rfl, fun j t ht => by
        have hm : t ∈ Tryz.f5.params.toList := by simpa using Array.mem_of_getElem? ht
        have hall : (Tryz.f5.params.toList.all fun u => !Tryz.prog.wantsStandIn u) = true := by kernel_rfl
        exact (show Tryz.prog.wantsStandIn t = false by simpa using List.all_eq_true.1 hall t hm)⟩)
    (by kernel_rfl)

end Go.Proofs.YtalhcaadpgadkaaGreatDoor
