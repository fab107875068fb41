/- Own work: the zaH machine and what it shows, part Gr. -/
import Derived.Test.YtchjbidfmhmmhaaGreatDoorLv
import Derived.Test.YtchjbidfmhmmhaaGreatDoorVs
import Derived.Test.YtchjbidfmhmmhaaGreatDoorVp
set_option linter.all false
namespace Go.Proofs.YtchjbidfmhmmhaaGreatDoor
open Go.Sh
set_option maxHeartbeats 4000000
set_option maxRecDepth 100000
end Go.Proofs.YtchjbidfmhmmhaaGreatDoor
