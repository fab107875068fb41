/- Own work, over the shadow machine: SFits. -/
import Derived.Test.YtalhcaadpgadkaaGreatDoorRowA
import Derived.Test.YtalhcaadpgadkaaGreatDoorSp22
set_option linter.all false
namespace Go.Proofs.YtalhcaadpgadkaaGreatDoor
open Go.Sh Go.ChangeShapes Go.WideShapes Go.ChangeAt Go.RowKit
set_option maxRecDepth 100000

abbrev stpSh : Shape := .row [.int .i64, .int .i64, .int .i64, .int .i64, .int .i64, .int .i64, .int .u8, .slice chgSh]

theorem fits_stp {c : List GV} (h : Fits stpSh c) : ∃ p : SP, mkG stpSh c = spG p ∧ SBig p := by
  cases h with
  | rcons _ _ _ _ h1 t1 =>
  cases t1 with
  | rcons _ _ _ _ h2 t2 =>
  cases t2 with
  | rcons _ _ _ _ h3 t3 =>
  cases t3 with
  | rcons _ _ _ _ h4 t4 =>
  cases t4 with
  | rcons _ _ _ _ h5 t5 =>
  cases t5 with
  | rcons _ _ _ _ h6 t6 =>
  cases t6 with
  | rcons _ _ _ _ h7 t7 =>
  cases t7 with
  | rcons _ _ b8 _ h8 t8 =>
  cases t8
  obtain ⟨L, e1, e2, e3⟩ := fits_list (fun c hc => fits_chg hc) h8
  have hb8 : b8 = [mkG (.slice chgSh) b8] := by cases h8 <;> rfl
  cases h1; cases h2; cases h3; cases h4; cases h5; cases h6; cases h7
  rename_i k hk r hr s hs i hi kp hkp a ha by_ hby
  simp [IntKind.min, IntKind.max, IntKind.signed, IntKind.bits] at hk hr hs hi hkp ha hby
  have key : ∀ w, b8 = [w] → mkG stpSh ([GV.int .i64 k] ++ ([GV.int .i64 r] ++ ([GV.int .i64 s] ++ ([GV.int .i64 i] ++ ([GV.int .i64 kp] ++ ([GV.int .i64 a] ++ ([GV.int .u8 by_] ++ (b8 ++ [])))))))) = spG (⟨k, r, s, i, kp, a, by_, L⟩, w) := by
    intro w hw
    rw [hw]; rfl
  exact ⟨(⟨k, r, s, i, kp, a, by_, L⟩, mkG (.slice chgSh) b8), key _ hb8, ⟨⟨hr.1, hr.2, hs.1, hs.2, hi.1, hi.2, hkp.1, hkp.2, ha.1, ha.2, hby.1, hby.2⟩, e1, e2, by simp only; unfold maxLen at e3; omega⟩⟩

theorem scriptTexts_args (gargs : List GV) (h : ArgsFit [.slice stpSh] gargs) : ∃ H', ecall T f_hedgerowlaw29_ScriptTexts gargs (isoH Tryz.prog.globals.size) = some (.bool true, H') := by
  cases h with
  | cons h1 t1 =>
    cases t1
    obtain ⟨L, e1, e2, e3⟩ := fits_list (fun c hc => fits_stp hc) h1
    exact ⟨_, scriptTexts_ok L e2 (by unfold maxLen at e3; omega) _ e1 _⟩

theorem scriptReads_args (gargs : List GV) (h : ArgsFit [.str] gargs) : ∃ H', ecall T f_hedgerowlaw29_ScriptReads gargs (isoH Tryz.prog.globals.size) = some (.bool true, H') := by
  cases h with
  | cons h1 t1 =>
    cases t1
    obtain ⟨s, e1, _⟩ := fits_str h1
    rw [e1, eta_str]
    exact ⟨_, scriptReads_ok _ _⟩
end Go.Proofs.YtalhcaadpgadkaaGreatDoor
