/- Own work, over the shadow machine: LSpec1. -/
import Derived.Test.YtlmiihdkgaljoaaGreatDoorFun
import Derived.Test.YtlmiihdkgaljoaaGreatDoorShF
set_option linter.all false
namespace Go.Proofs.YtlmiihdkgaljoaaGreatDoor
open Go.Sh
set_option maxRecDepth 100000

theorem fixed_run (H : GH) : gcall T 3000 f_hedgerowlaw18_fixed [] H = some (.bool true, H) := by kernel_rfl
theorem fixed_ok (H : GH) : ecall T f_hedgerowlaw18_fixed [] H = some (.bool true, H) := ecall_iff.2 ⟨3000, fixed_run H⟩
theorem letter43 (H : GH) : ecall T f_lex_letter [.int .u8 43] H = some (.bool false, H) := ecall_iff.2 ⟨50, by kernel_rfl⟩
theorem digit43 (H : GH) : ecall T f_lex_digit [.int .u8 43] H = some (.bool false, H) := ecall_iff.2 ⟨50, by kernel_rfl⟩
end Go.Proofs.YtlmiihdkgaljoaaGreatDoor
