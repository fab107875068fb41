/- Own work: the zaM machine and what it shows, part RowA. -/
import Derived.Test.YtchjbidfmhmmhaaGreatDoorCo
import Derived.Test.YtchjbidfmhmmhaaGreatDoorRowC
set_option linter.all false
namespace Go.Proofs.YtchjbidfmhmmhaaGreatDoor
open Go.Sh Go.ChangeShapes Go.WideShapes Go.ChangeAt Go.RowKit
set_option maxRecDepth 100000
abbrev zH2:Shape:=.row [.int .i64,.str,.str,.str,.str]
abbrev zuP:Shape:=.row [.int .i64,.int .i64,.str]
abbrev zEx:Shape:=.row [.int .i64,.int .i64]
abbrev zHB:Shape:=.row (List.replicate 16 (.int .i64))
abbrev zFL:Shape:=.row [zEx,zHB,.int .i64,zH2,zuP]
end Go.Proofs.YtchjbidfmhmmhaaGreatDoor
