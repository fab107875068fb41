/- Own work, over the shadow machine: VFix. -/
import Derived.Test.YtbcdhjalciljaaaDoorFun
set_option linter.all false
namespace Go.Proofs.YtbcdhjalciljaaaDoor
open Go.Sh
set_option maxRecDepth 100000
theorem fixed_run (H : GH) : gcall T 200 f_hedgerowlaw01_fixed [] H = some (.bool true, H) := by kernel_rfl
end Go.Proofs.YtbcdhjalciljaaaDoor
