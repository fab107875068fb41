/- Own work: the shadow machine and what it shows, part ToA. -/
import Derived.Test.YtlmiihdkgaljoaaGreatDoorTo4
import Derived.Test.YtlmiihdkgaljoaaGreatDoorRowC
set_option linter.all false

namespace Go.Proofs.YtlmiihdkgaljoaaGreatDoor
open Go.Sh Go.ChangeShapes Go.WideShapes Go.ChangeAt Go.RowKit
set_option maxRecDepth 100000

theorem lexTokens_args (gargs : List GV) (h : ArgsFit [.str] gargs) : ∃ H', ecall T f_hedgerowlaw18_LexTokens gargs (isoH Tryz.prog.globals.size) = some (.bool true, H') := by
  cases h with
  | cons h1 t1 =>
    cases t1
    obtain ⟨s, e1, _⟩ := fits_str h1
    rw [e1]
    exact lexTokens_ok s _
end Go.Proofs.YtlmiihdkgaljoaaGreatDoor
