/- Own work, over the shadow machine: JFits. -/
import Derived.Test.YtalhcaadpgadkaaDoorRowC
import Derived.Test.YtalhcaadpgadkaaDoorLaw
set_option linter.all false
namespace Go.Proofs.YtalhcaadpgadkaaDoor
open Go.Sh Go.ChangeShapes Go.WideShapes Go.ChangeAt Go.RowKit
set_option maxRecDepth 100000

abbrev chgSh : Shape := .row [.int .i64, .row [.int .i64, .str, .str, .str, .str], .row [.int .i64, .int .i64, .str]]

theorem eta_str (s : ByteArray) : GV.str s = .str (mkB s.data.toList) := by rw [mkB_eta]
theorem size_le {s : ByteArray} (h : s.size ≤ strMost) : s.data.toList.length ≤ 1125899906842624 := by
  rw [bs_size] at h; unfold strMost at h; omega

theorem fits_chg {c : List GV} (h : Fits chgSh c) : ∃ x : Chg, mkG chgSh c = chgG x ∧ CBig x := by
  cases h with
  | rcons _ _ _ _ h1 t1 =>
    cases t1 with
    | rcons _ _ _ _ h2 t2 =>
      cases t2 with
      | rcons _ _ _ _ h3 t3 =>
        cases t3
        cases h1
        cases h2 with
        | rcons _ _ _ _ e1 u1 =>
        cases u1 with
        | rcons _ _ _ _ e2 u2 =>
        cases u2 with
        | rcons _ _ _ _ e3 u3 =>
        cases u3 with
        | rcons _ _ _ _ e4 u4 =>
        cases u4 with
        | rcons _ _ _ _ e5 u5 =>
        cases u5
        cases h3 with
        | rcons _ _ _ _ d1 w1 =>
        cases w1 with
        | rcons _ _ _ _ d2 w2 =>
        cases w2 with
        | rcons _ _ _ _ d3 w3 =>
        cases w3
        cases e1; cases e2; cases e3; cases e4; cases e5; cases d1; cases d2; cases d3
        rename_i op _ ek _ a ha b hb c hc d hd vk _ vn hvn vt hvt
        simp [IntKind.min, IntKind.max, IntKind.signed, IntKind.bits] at hvn
        refine ⟨⟨op, ek, a.data.toList, b.data.toList, c.data.toList, d.data.toList, vk, vn, vt.data.toList⟩, ?_, ⟨size_le ha, size_le hb, size_le hc, size_le hd, size_le hvt, hvn.1, hvn.2⟩⟩
        simp only [mkG, chgG, chgC, mkB_eta]
        rfl

abbrev stpSh : Shape := .row [.int .i64, .int .i64, .int .i64, .int .i64, .int .i64, .int .i64, .int .u8, .slice chgSh]

theorem fits_stp {c : List GV} (h : Fits stpSh c) : ∃ p : SP, mkG stpSh c = spG p ∧ SBig p := by
  cases h with
  | rcons _ _ _ _ h1 t1 =>
  cases t1 with
  | rcons _ _ _ _ h2 t2 =>
  cases t2 with
  | rcons _ _ _ _ h3 t3 =>
  cases t3 with
  | rcons _ _ _ _ h4 t4 =>
  cases t4 with
  | rcons _ _ _ _ h5 t5 =>
  cases t5 with
  | rcons _ _ _ _ h6 t6 =>
  cases t6 with
  | rcons _ _ _ _ h7 t7 =>
  cases t7 with
  | rcons _ _ b8 _ h8 t8 =>
  cases t8
  obtain ⟨L, e1, e2, e3⟩ := fits_list (fun c hc => fits_chg hc) h8
  have hb8 : b8 = [mkG (.slice chgSh) b8] := by cases h8 <;> rfl
  cases h1; cases h2; cases h3; cases h4; cases h5; cases h6; cases h7
  rename_i k hk r hr s hs i hi kp hkp a ha by_ hby
  simp [IntKind.min, IntKind.max, IntKind.signed, IntKind.bits] at hk hr hs hi hkp ha hby
  have key : ∀ w, b8 = [w] → mkG stpSh ([GV.int .i64 k] ++ ([GV.int .i64 r] ++ ([GV.int .i64 s] ++ ([GV.int .i64 i] ++ ([GV.int .i64 kp] ++ ([GV.int .i64 a] ++ ([GV.int .u8 by_] ++ (b8 ++ [])))))))) = spG (⟨k, r, s, i, kp, a, by_, L⟩, w) := by
    intro w hw
    rw [hw]; rfl
  exact ⟨(⟨k, r, s, i, kp, a, by_, L⟩, mkG (.slice chgSh) b8), key _ hb8, ⟨⟨hr.1, hr.2, hs.1, hs.2, hi.1, hi.2, hkp.1, hkp.2, ha.1, ha.2, hby.1, hby.2⟩, e1, e2, by simp only; unfold maxLen at e3; omega⟩⟩

theorem scriptJoins_args (gargs : List GV) (h : ArgsFit [.slice stpSh, .slice stpSh] gargs) : ∃ H', ecall T f_hedgerowlaw29_ScriptJoins gargs (isoH Tryd.prog.globals.size) = some (.bool true, H') := by
  cases h with
  | cons h1 t1 =>
    cases t1 with
    | cons h2 t2 =>
    cases t2
    obtain ⟨L, e1, e2, e3⟩ := fits_list (fun c hc => fits_stp hc) h1
    obtain ⟨M, d1, d2, d3⟩ := fits_list (fun c hc => fits_stp hc) h2
    exact joins_ok L M e2 d2 (by unfold maxLen at e3; omega) (by unfold maxLen at d3; omega) _ _ e1 d1 _ (by simp [isoH])
end Go.Proofs.YtalhcaadpgadkaaDoor
