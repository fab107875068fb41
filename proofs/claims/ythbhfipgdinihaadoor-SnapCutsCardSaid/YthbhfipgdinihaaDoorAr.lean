/- Own work: the shadow machine and what it shows, part Ar. -/
import Derived.Test.YthbhfipgdinihaaDoorCu
import Derived.Test.YthbhfipgdinihaaDoorRowA
set_option linter.all false

namespace Go.Proofs.YthbhfipgdinihaaDoor
open Go.Sh Go.ChangeShapes Go.WideShapes Go.ChangeAt Go.RowKit
set_option maxRecDepth 100000

theorem snapCuts_args (gargs : List GV) (h : ArgsFit [snSh, .int .u16, .slice (.int .u8)] gargs) : ∃ H', ecall T f_hedgerowlaw12_SnapCuts gargs (isoH Tryd.prog.globals.size) = some (.bool true, H') := by
  cases h with
  | cons h1 t1 =>
  cases t1 with
  | cons h2 t2 =>
  cases t2 with
  | cons h3 t3 =>
    cases t3
    obtain ⟨a1, b1, rfl, f1, g1⟩ := row_cons h1
    obtain ⟨a2, b2, rfl, f2, g2⟩ := row_cons g1
    obtain ⟨a3, b3, rfl, f3, g3⟩ := row_cons g2
    obtain rfl := row_nil g3
    obtain ⟨kv, rfl, hk⟩ := cells_ints 16 f1
    obtain ⟨I, hI, hi, hil⟩ := fits_list (f := ipG) (fun c hc => fits_itm hc) f2
    obtain ⟨E, hE, he, hel⟩ := fits_list (f := evG) (fun c hc => fits_ev hc) f3
    obtain ⟨cut, ec, bc⟩ := fits_int h2
    simp [IntKind.min, IntKind.max, IntKind.signed, IntKind.bits] at bc
    obtain ⟨B, hB, hb, hl⟩ := fits_list (f := fun n => GV.int .u8 n) (p := fun n : Int => 0 ≤ n ∧ n ≤ 255) (fun c hc => by
      obtain ⟨a, e, ba⟩ := fits_int hc
      simp [IntKind.min, IntKind.max, IntKind.signed, IntKind.bits] at ba
      exact ⟨a, e, ba⟩) h3
    have e2 := fit_sl f2
    have e3 := fit_sl f3
    have e : mkG snSh ((kv.map fun n => GV.int .i64 n) ++ (a2 ++ (a3 ++ []))) = .agg (snC kv (mkG (.slice itmSh) a2) (mkG (.slice evSh) a3)) := by
      show GV.agg _ = _
      rw [List.append_nil, snC]
      congr 2
      conv => lhs; rw [e2, e3]
      rfl
    rw [e, ec]
    exact snapCuts_ok kv hk I (by unfold maxLen at hil; omega) hi E (by unfold maxLen at hel; omega) he _ _ hI hE cut bc.1 bc.2 B hb (by unfold maxLen at hl; omega) _ hB _ (Nat.zero_le _)
end Go.Proofs.YthbhfipgdinihaaDoor
