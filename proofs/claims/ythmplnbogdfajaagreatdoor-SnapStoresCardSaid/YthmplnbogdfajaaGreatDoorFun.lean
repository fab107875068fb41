/- Own work: the shadow machine and what it shows,part Fun. -/
import Derived.Test.YthmplnbogdfajaaGreatDoorChecked
import Derived.Test.YthmplnbogdfajaaGreatDoorShT
import Derived.Test.YthmplnbogdfajaaGreatDoorLib
set_option linter.all false
namespace Go.Proofs.YthmplnbogdfajaaGreatDoor
open Go.Sh
set_option maxRecDepth 100000
abbrev f_x14 : Nat := 7
abbrev f_x25 : Nat := 10
abbrev f_x62 : Nat := 11
abbrev f_x66 : Nat := 12
abbrev f_x64 : Nat := 13
abbrev f_x68 : Nat := 17
abbrev f_x69 : Nat := 20
abbrev f_x15 : Nat := 23
abbrev f_x24 : Nat := 24
abbrev f_x46 : Nat := 25
abbrev f_x47 : Nat := 26
abbrev f_x52 : Nat := 27
abbrev f_x50 : Nat := 28
abbrev f_x63 : Nat := 29
abbrev f_x23 : Nat := 30
abbrev f_x9 : Nat := 31
abbrev f_x39 : Nat := 32
abbrev f_x37 : Nat := 33
abbrev f_x67 : Nat := 34
abbrev f_x86 : Nat := 35
abbrev f_x36 : Nat := 36
abbrev f_x71 : Nat := 37
abbrev f_x44 : Nat := 38
abbrev f_x70 : Nat := 39
abbrev f_x45 : Nat := 40
abbrev f_x65 : Nat := 41
abbrev f_x76 : Nat := 45
abbrev f_x72 : Nat := 46
abbrev f_x49 : Nat := 50
abbrev f_x26 : Nat := 51
abbrev f_x55 : Nat := 52
abbrev f_x7 : Nat := 53
abbrev f_x27 : Nat := 54
abbrev f_x30 : Nat := 55
abbrev f_x61 : Nat := 56
abbrev f_x58 : Nat := 57
abbrev f_x59 : Nat := 58
abbrev f_x48 : Nat := 59
abbrev f_x8 : Nat := 60
abbrev f_x29 : Nat := 61
abbrev f_x28 : Nat := 62
abbrev f_x51 : Nat := 63
abbrev f_x42 : Nat := 64
abbrev f_x40 : Nat := 65
abbrev f_x41 : Nat := 66
abbrev f_x2 : Nat := 67
abbrev f_x0 : Nat := 68
abbrev f_x1 : Nat := 69
abbrev f_x22 : Nat := 70
abbrev f_x87 : Nat := 71
abbrev f_x88 : Nat := 72
abbrev f_x5 : Nat := 73
abbrev f_x6 : Nat := 74
abbrev f_x43 : Nat := 75
abbrev f_x85 : Nat := 76
abbrev f_x83 : Nat := 82
abbrev f_x80 : Nat := 83
abbrev f_x53 : Nat := 85
abbrev f_x34 : Nat := 86
abbrev f_x56 : Nat := 87
abbrev f_x33 : Nat := 88
abbrev f_x35 : Nat := 89
abbrev f_x32 : Nat := 90
abbrev f_x60 : Nat := 91
abbrev f_x57 : Nat := 92
abbrev f_x12 : Nat := 93
abbrev f_x3 : Nat := 94
abbrev f_x4 : Nat := 95
abbrev f_x16 : Nat := 96
abbrev f_x19 : Nat := 97
abbrev f_x11 : Nat := 98
abbrev f_x78 : Nat := 110
abbrev f_x73 : Nat := 111
abbrev f_x54 : Nat := 120
abbrev f_x38 : Nat := 121
abbrev f_x31 : Nat := 122
abbrev f_x18 : Nat := 123
abbrev f_x21 : Nat := 124
abbrev f_x17 : Nat := 125
abbrev f_x10 : Nat := 126
abbrev f_x13 : Nat := 127
abbrev f_x82 : Nat := 134
abbrev f_x81 : Nat := 135
abbrev f_x20 : Nat := 142
abbrev f_x79 : Nat := 143
abbrev f_x84 : Nat := 148
abbrev f_x77 : Nat := 149
abbrev f_x74 : Nat := 152
def L0_x14 : ICode :=
 .seq
 (.region [
 ⟨some 24,none,.bin .lss,[.slot 23,.slot 22],none⟩])
 (.seq
 (.cond (.slot 24)
 (.skip)
 (.exit 0))
 (.seq
 (.block 1
 (.seq
 (.region [
 ⟨some 25,none,.ixaddr 27,[.slot 21,.slot 23],none⟩,⟨some 26,none,.load 27 true,[.slot 25],none⟩,⟨some 4,none,.allocL [.int .i64 0,.int .i64 0,.int .i64 0,.int .i64 0,.int .i64 0,.int .i64 0,.int .i64 0,.int .i64 0,.int .i64 0,.int .i64 0,.int .i64 0,.int .i64 0,.int .i64 0,.int .i64 0,.int .i64 0,.int .i64 0,.int .i64 0,.int .i64 0,.int .i64 0,.int .i64 0,.str ⟨#[]⟩,.str ⟨#[]⟩,.str ⟨#[]⟩,.str ⟨#[]⟩,.int .i64 0,.int .i64 0,.str ⟨#[]⟩],[],none⟩,⟨none,none,.store 27,[.slot 4,.slot 26],none⟩])
 (.seq
 (.region [
 ⟨some 27,none,.load 27 true,[.slot 4],none⟩,⟨some 28,none,.call f_x24,[.slot 27],none⟩,⟨some 29,none,.un .not,[.slot 28],none⟩])
 (.cond (.slot 29)
 (.seq
 (.region [
 ⟨some 2,none,.id,[.val (.bool true)],none⟩])
 (.ret))
 (.skip)))))
 (.region [
 ⟨some 30,none,.bin .add,[.slot 23,.val (.int .i64 1)],none⟩,⟨some 23,none,.id,[.slot 30],none⟩])))
def L1_x14 : ICode :=
 .seq
 (.region [
 ⟨some 40,none,.bin .lss,[.slot 39,.slot 38],none⟩])
 (.seq
 (.cond (.slot 40)
 (.skip)
 (.exit 2))
 (.seq
 (.block 3
 (.seq
 (.region [
 ⟨some 41,none,.ixaddr 27,[.slot 37,.slot 39],none⟩,⟨some 42,none,.load 27 true,[.slot 41],none⟩,⟨some 9,none,.allocL [.int .i64 0,.int .i64 0,.int .i64 0,.int .i64 0,.int .i64 0,.int .i64 0,.int .i64 0,.int .i64 0,.int .i64 0,.int .i64 0,.int .i64 0,.int .i64 0,.int .i64 0,.int .i64 0,.int .i64 0,.int .i64 0,.int .i64 0,.int .i64 0,.int .i64 0,.int .i64 0,.str ⟨#[]⟩,.str ⟨#[]⟩,.str ⟨#[]⟩,.str ⟨#[]⟩,.int .i64 0,.int .i64 0,.str ⟨#[]⟩],[],none⟩,⟨none,none,.store 27,[.slot 9,.slot 42],none⟩])
 (.region [
 ⟨some 43,none,.id,[.slot 7],none⟩,⟨some 44,none,.load 27 true,[.slot 9],none⟩,⟨some 45,none,.call f_x66,[.slot 43,.slot 44],none⟩])))
 (.region [
 ⟨some 46,none,.bin .add,[.slot 39,.val (.int .i64 1)],none⟩,⟨some 39,none,.id,[.slot 46],none⟩])))
def b_x14 : ICode :=
 .seq
 (.region [
 ⟨some 2,none,.id,[.val (.bool false)],none⟩])
 (.seq
 (.seq
 (.region [
 ⟨some 16,none,.call f_x15,[],none⟩,⟨some 17,none,.un .not,[.slot 16],none⟩])
 (.cond (.slot 17)
 (.seq
 (.region [
 ⟨some 2,none,.id,[.val (.bool false)],none⟩])
 (.ret))
 (.skip)))
 (.seq
 (.seq
 (.region [
 ⟨some 18,none,.id,[.slot 0],none⟩,⟨some 19,none,.lensl,[.slot 18],none⟩,⟨some 20,none,.bin .gtr,[.slot 19,.val (.int .i64 60)],none⟩])
 (.cond (.slot 20)
 (.seq
 (.region [
 ⟨some 2,none,.id,[.val (.bool true)],none⟩])
 (.ret))
 (.skip)))
 (.seq
 (.seq
 (.region [
 ⟨some 21,none,.id,[.slot 0],none⟩,⟨some 22,none,.lensl,[.slot 21],none⟩,⟨some 23,none,.id,[.val (.int .i64 0)],none⟩])
 (.block 0
 (.loop L0_x14)))
 (.seq
 (.region [
 ⟨some 32,none,.id,[.slot 0],none⟩,⟨some 33,none,.call f_x25,[.slot 32],none⟩,⟨some 31,none,.id,[.slot 33],none⟩,⟨some 34,none,.extract 0,[.slot 31],none⟩,⟨some 35,none,.extract 1,[.slot 31],none⟩,⟨some 6,none,.allocL [.int .i64 0,.int .i64 0,.int .i64 0,.int .i64 0,.int .i64 0,.int .i64 0,.int .i64 0,.int .i64 0,.int .i64 0,.int .i64 0,.int .i64 0,.int .i64 0,.int .i64 0,.int .i64 0,.int .i64 0,.int .i64 0],[],none⟩,⟨some 5,none,.id,[.slot 34],none⟩,⟨none,none,.store 16,[.slot 6,.slot 35],none⟩])
 (.seq
 (.region [
 ⟨some 36,none,.call f_x62,[],none⟩,⟨some 7,none,.id,[.slot 36],none⟩])
 (.seq
 (.seq
 (.region [
 ⟨some 37,none,.id,[.slot 5],none⟩,⟨some 38,none,.lensl,[.slot 37],none⟩,⟨some 39,none,.id,[.val (.int .i64 0)],none⟩])
 (.block 2
 (.loop L1_x14)))
 (.seq
 (.seq
 (.region [
 ⟨some 47,none,.load 16 true,[.slot 6],(some (.loc 6))⟩,⟨some 48,none,.id,[.slot 7],none⟩,⟨some 49,none,.call f_x64,[.slot 48],none⟩,⟨some 50,none,.id,[.slot 5],none⟩,⟨some 51,none,.build [.int .i64 0,.int .i64 0,.int .i64 0,.int .i64 0,.int .i64 0,.int .i64 0,.int .i64 0,.int .i64 0,.int .i64 0,.int .i64 0,.int .i64 0,.int .i64 0,.int .i64 0,.int .i64 0,.int .i64 0,.int .i64 0,.nilsl,.nilsl] [(0,16),(16,1),(17,1)],[.slot 47,.slot 49,.slot 50],none⟩,⟨some 10,none,.allocK 5 [.int .i64 0,.int .i64 0,.int .i64 0,.int .i64 0,.int .i64 0,.int .i64 0,.int .i64 0,.int .i64 0,.int .i64 0,.int .i64 0,.int .i64 0,.int .i64 0,.int .i64 0,.int .i64 0,.int .i64 0,.int .i64 0,.nilsl,.nilsl],[],none⟩,⟨none,none,.store 18,[.slot 10,.slot 51],(some (.loc 10))⟩])
 (.bump 7))
 (.seq
 (.region [
 ⟨some 53,none,.load 18 true,[.slot 10],none⟩,⟨some 54,none,.call f_x46,[.slot 53],none⟩,⟨some 52,none,.id,[.slot 54],none⟩,⟨some 55,none,.extract 0,[.slot 52],none⟩,⟨some 56,none,.extract 1,[.slot 52],none⟩,⟨some 11,none,.id,[.slot 55],none⟩,⟨some 12,none,.id,[.slot 56],none⟩])
 (.seq
 (.region [
 ⟨some 58,none,.id,[.slot 11],none⟩,⟨some 59,none,.call f_x47,[.slot 58],none⟩,⟨some 57,none,.id,[.slot 59],none⟩,⟨some 60,none,.extract 0,[.slot 57],none⟩,⟨some 61,none,.extract 1,[.slot 57],none⟩,⟨some 13,none,.allocL [.int .i64 0,.int .i64 0,.int .i64 0,.int .i64 0,.int .i64 0,.int .i64 0,.int .i64 0,.int .i64 0,.int .i64 0,.int .i64 0,.int .i64 0,.int .i64 0,.int .i64 0,.int .i64 0,.int .i64 0,.int .i64 0,.nilsl,.nilsl],[],none⟩,⟨none,none,.store 18,[.slot 13,.slot 60],none⟩,⟨some 14,none,.id,[.slot 61],none⟩])
 (.seq
 (.seq
 (.region [
 ⟨some 62,none,.load 16 true,[.slot 6],(some (.loc 6))⟩,⟨some 63,none,.load 18 true,[.slot 13],(some (.loc 13))⟩,⟨some 64,none,.call f_x52,[.slot 63],none⟩,⟨some 65,none,.call f_x64,[.slot 64],none⟩,⟨some 66,none,.id,[.slot 5],none⟩,⟨some 67,none,.build [.int .i64 0,.int .i64 0,.int .i64 0,.int .i64 0,.int .i64 0,.int .i64 0,.int .i64 0,.int .i64 0,.int .i64 0,.int .i64 0,.int .i64 0,.int .i64 0,.int .i64 0,.int .i64 0,.int .i64 0,.int .i64 0,.nilsl,.nilsl] [(0,16),(16,1),(17,1)],[.slot 62,.slot 65,.slot 66],none⟩,⟨some 15,none,.allocK 6 [.int .i64 0,.int .i64 0,.int .i64 0,.int .i64 0,.int .i64 0,.int .i64 0,.int .i64 0,.int .i64 0,.int .i64 0,.int .i64 0,.int .i64 0,.int .i64 0,.int .i64 0,.int .i64 0,.int .i64 0,.int .i64 0,.nilsl,.nilsl],[],none⟩,⟨none,none,.store 18,[.slot 15,.slot 67],(some (.loc 15))⟩])
 (.bump 8))
 (.seq
 (.region [
 ⟨some 68,none,.id,[.slot 12],none⟩,⟨some 69,none,.bin .eql,[.slot 68,.val (.int .i64 0)],none⟩,⟨some 70,none,.id,[.slot 69],none⟩,⟨some 71,(some (70,true)),.id,[.slot 14],none⟩,⟨some 72,(some (70,true)),.bin .eql,[.slot 71,.val (.int .i64 0)],none⟩,⟨some 73,none,.pick,[.slot 70,.slot 72,.val (.bool false)],none⟩,⟨some 74,none,.id,[.slot 73],none⟩,⟨some 75,(some (74,true)),.load 18 true,[.slot 10],none⟩,⟨some 76,(some (74,true)),.load 18 true,[.slot 13],none⟩,⟨some 77,(some (74,true)),.call f_x50,[.slot 75,.slot 76],none⟩,⟨some 78,none,.pick,[.slot 74,.slot 77,.val (.bool false)],none⟩,⟨some 79,none,.id,[.slot 78],none⟩,⟨some 80,(some (79,true)),.load 18 true,[.slot 10],none⟩,⟨some 81,(some (79,true)),.load 18 true,[.slot 15],none⟩,⟨some 82,(some (79,true)),.call f_x50,[.slot 80,.slot 81],none⟩,⟨some 83,none,.pick,[.slot 79,.slot 82,.val (.bool false)],none⟩,⟨some 2,none,.id,[.slot 83],none⟩])
 (.ret))))))))))))
def F_x14 : IFun := ⟨84,[.slot 2],b_x14,3,0,nofn⟩
theorem c_hedgerowlaw12_SnapStores : cFun Tryz.prog [1048580,1048582,1048585,1048586,1048589,1048591,2097175,2097177,2097178] 0 f_x14 = some F_x14 := by kernel_rfl
def L0_x25 : ICode :=
 .seq
 (.region [
 ⟨some 32,none,.bin .lss,[.slot 31,.val (.int .i64 16)],none⟩])
 (.seq
 (.cond (.slot 32)
 (.skip)
 (.exit 2))
 (.seq
 (.block 3
 (.seq
 (.region [
 ⟨some 33,none,.id,[.slot 31],none⟩,⟨some 9,none,.id,[.slot 33],none⟩])
 (.region [
 ⟨some 34,none,.id,[.slot 8],none⟩,⟨some 35,none,.id,[.slot 34],none⟩,⟨some 36,(some (35,true)),.id,[.slot 9],none⟩,⟨some 37,(some (35,true)),.faddr 2,[.slot 7],none⟩,⟨some 38,(some (35,true)),.ixaddrA 16 1,[.slot 37,.slot 36],none⟩,⟨some 39,(some (35,true)),.load 1 false,[.slot 38],(some (.loc 7))⟩,⟨some 40,(some (35,true)),.id,[.slot 9],none⟩,⟨some 41,(some (35,true)),.ixaddrA 16 1,[.slot 5,.slot 40],none⟩,⟨some 42,(some (35,true)),.load 1 false,[.slot 41],(some (.loc 5))⟩,⟨some 43,(some (35,true)),.bin .leq,[.slot 39,.slot 42],none⟩,⟨some 44,none,.pick,[.slot 35,.slot 43,.val (.bool false)],none⟩,⟨some 8,none,.id,[.slot 44],none⟩])))
 (.region [
 ⟨some 45,none,.bin .add,[.slot 31,.val (.int .i64 1)],none⟩,⟨some 31,none,.id,[.slot 45],none⟩])))
def L1_x25 : ICode :=
 .seq
 (.region [
 ⟨some 13,none,.bin .lss,[.slot 12,.slot 11],none⟩])
 (.seq
 (.cond (.slot 13)
 (.skip)
 (.exit 0))
 (.seq
 (.block 1
 (.seq
 (.region [
 ⟨some 14,none,.ixaddr 27,[.slot 10,.slot 12],none⟩,⟨some 15,none,.load 27 true,[.slot 14],none⟩,⟨some 7,none,.allocL [.int .i64 0,.int .i64 0,.int .i64 0,.int .i64 0,.int .i64 0,.int .i64 0,.int .i64 0,.int .i64 0,.int .i64 0,.int .i64 0,.int .i64 0,.int .i64 0,.int .i64 0,.int .i64 0,.int .i64 0,.int .i64 0,.int .i64 0,.int .i64 0,.int .i64 0,.int .i64 0,.str ⟨#[]⟩,.str ⟨#[]⟩,.str ⟨#[]⟩,.str ⟨#[]⟩,.int .i64 0,.int .i64 0,.str ⟨#[]⟩],[],none⟩,⟨none,none,.store 27,[.slot 7,.slot 15],none⟩])
 (.seq
 (.seq
 (.region [
 ⟨some 16,none,.load 27 true,[.slot 7],(some (.loc 7))⟩,⟨some 17,none,.call f_x23,[.slot 16],none⟩,⟨some 18,none,.un .not,[.slot 17],none⟩,⟨some 19,none,.id,[.slot 18],none⟩,⟨some 20,(some (19,false)),.faddr 0,[.slot 7],none⟩,⟨some 21,(some (19,false)),.faddr 0,[.slot 20],none⟩,⟨some 22,(some (19,false)),.load 1 false,[.slot 21],(some (.loc 7))⟩,⟨some 23,(some (19,false)),.ixaddrA 16 1,[.slot 5,.slot 22],none⟩,⟨some 24,(some (19,false)),.load 1 false,[.slot 23],(some (.loc 5))⟩,⟨some 25,(some (19,false)),.faddr 0,[.slot 7],none⟩,⟨some 26,(some (19,false)),.faddr 1,[.slot 25],none⟩,⟨some 27,(some (19,false)),.load 1 false,[.slot 26],(some (.loc 7))⟩,⟨some 28,(some (19,false)),.bin .sub,[.slot 27,.val (.int .i64 1)],none⟩,⟨some 29,(some (19,false)),.bin .neq,[.slot 24,.slot 28],none⟩,⟨some 30,none,.pick,[.slot 19,.val (.bool true),.slot 29],none⟩])
 (.cond (.slot 30)
 (.exit 1)
 (.skip)))
 (.seq
 (.region [
 ⟨some 8,none,.id,[.val (.bool true)],none⟩])
 (.seq
 (.seq
 (.region [
 ⟨some 31,none,.id,[.val (.int .i64 0)],none⟩])
 (.block 2
 (.loop L0_x25)))
 (.seq
 (.region [
 ⟨some 46,none,.id,[.slot 8],none⟩])
 (.cond (.slot 46)
 (.seq
 (.region [
 ⟨some 47,none,.id,[.slot 4],none⟩,⟨some 48,none,.load 27 true,[.slot 7],none⟩,⟨some 49,none,.buildSl 27 1 (.agg [.int .i64 0,.int .i64 0,.int .i64 0,.int .i64 0,.int .i64 0,.int .i64 0,.int .i64 0,.int .i64 0,.int .i64 0,.int .i64 0,.int .i64 0,.int .i64 0,.int .i64 0,.int .i64 0,.int .i64 0,.int .i64 0,.int .i64 0,.int .i64 0,.int .i64 0,.int .i64 0,.str ⟨#[]⟩,.str ⟨#[]⟩,.str ⟨#[]⟩,.str ⟨#[]⟩,.int .i64 0,.int .i64 0,.str ⟨#[]⟩]) [0],[.slot 48],none⟩,⟨some 50,none,.append 38 27 256,[.slot 47,.slot 49],none⟩,⟨some 4,none,.id,[.slot 50],none⟩])
 (.region [
 ⟨some 51,none,.faddr 0,[.slot 7],none⟩,⟨some 52,none,.faddr 0,[.slot 51],none⟩,⟨some 53,none,.load 1 false,[.slot 52],none⟩,⟨some 54,none,.faddr 0,[.slot 7],none⟩,⟨some 55,none,.faddr 1,[.slot 54],none⟩,⟨some 56,none,.load 1 false,[.slot 55],none⟩,⟨some 57,none,.ixaddrA 16 1,[.slot 5,.slot 53],none⟩,⟨none,none,.store 1,[.slot 57,.slot 56],none⟩]))
 (.skip))))))))
 (.region [
 ⟨some 58,none,.bin .add,[.slot 12,.val (.int .i64 1)],none⟩,⟨some 12,none,.id,[.slot 58],none⟩])))
def b_x25 : ICode :=
 .seq
 (.region [
 ⟨some 2,none,.id,[.val .nilsl],none⟩,⟨some 3,none,.allocL [.int .i64 0,.int .i64 0,.int .i64 0,.int .i64 0,.int .i64 0,.int .i64 0,.int .i64 0,.int .i64 0,.int .i64 0,.int .i64 0,.int .i64 0,.int .i64 0,.int .i64 0,.int .i64 0,.int .i64 0,.int .i64 0],[],none⟩])
 (.seq
 (.region [
 ⟨some 4,none,.id,[.val .nilsl],none⟩])
 (.seq
 (.region [
 ⟨some 5,none,.allocL [.int .i64 0,.int .i64 0,.int .i64 0,.int .i64 0,.int .i64 0,.int .i64 0,.int .i64 0,.int .i64 0,.int .i64 0,.int .i64 0,.int .i64 0,.int .i64 0,.int .i64 0,.int .i64 0,.int .i64 0,.int .i64 0],[],none⟩])
 (.seq
 (.seq
 (.region [
 ⟨some 10,none,.id,[.slot 0],none⟩,⟨some 11,none,.lensl,[.slot 10],none⟩,⟨some 12,none,.id,[.val (.int .i64 0)],none⟩])
 (.block 0
 (.loop L1_x25)))
 (.seq
 (.region [
 ⟨some 59,none,.id,[.slot 4],none⟩,⟨some 60,none,.load 16 true,[.slot 5],(some (.loc 5))⟩,⟨some 2,none,.id,[.slot 59],none⟩,⟨none,none,.store 16,[.slot 3,.slot 60],(some (.loc 3))⟩])
 (.ret)))))
def F_x25 : IFun := ⟨61,[.slot 2,.cell 3 16 true],b_x25,3,0,nofn⟩
theorem c_hedgerowref07_Causal : cFun Tryz.prog [1048579,1048581,1048583] 0 f_x25 = some F_x25 := by kernel_rfl
def b_x62 : ICode :=
 .seq
 (.region [
 ⟨some 0,none,.id,[.val .nilptr],none⟩])
 (.seq
 (.region [
 ⟨some 1,none,.mkmap true [(.int .i64),.str,.str,.str,.str],[],none⟩,⟨some 2,none,.build [.nilmap] [(0,1)],[.slot 1],none⟩,⟨some 3,none,.boxH 75,[.slot 2],none⟩,⟨some 0,none,.id,[.slot 3],none⟩])
 (.ret))
def F_x62 : IFun := ⟨4,[.slot 0],b_x62,3,0,nofn⟩
theorem c_store_New : cFun Tryz.prog [3] 0 f_x62 = some F_x62 := by kernel_rfl
def b_x66 : ICode :=
 .seq
 (.region [
 ⟨some 3,none,.boxH 38,[.slot 1],none⟩,⟨some 4,none,.id,[.val (.int .i64 0)],none⟩])
 (.seq
 (.seq
 (.region [
 ⟨some 9,none,.id,[.slot 0],none⟩,⟨some 10,none,.eq1 false .ptr,[.slot 9,.val .nilptr],none⟩,⟨some 11,none,.id,[.slot 10],none⟩,⟨some 12,(some (11,false)),.load 27 true,[.slot 3],none⟩,⟨some 13,(some (11,false)),.call f_x9,[.slot 12],none⟩,⟨some 14,(some (11,false)),.bin .neq,[.slot 13,.val (.int .i64 0)],none⟩,⟨some 15,none,.pick,[.slot 11,.val (.bool true),.slot 14],none⟩])
 (.cond (.slot 15)
 (.seq
 (.region [
 ⟨some 4,none,.id,[.val (.int .i64 1)],none⟩])
 (.ret))
 (.skip)))
 (.seq
 (.region [
 ⟨some 16,none,.id,[.slot 0],none⟩,⟨some 17,none,.nilchk,[.slot 16],none⟩,⟨some 18,none,.faddr 0,[.slot 17],none⟩,⟨some 19,none,.load 1 false,[.slot 18],(some (.heap))⟩,⟨some 20,none,.faddr 19,[.slot 3],none⟩,⟨some 21,none,.load 5 true,[.slot 20],(some (.heap))⟩,⟨some 22,none,.mlook true [(.int .i64),.str,.str,.str,.str] .nilsl false,[.slot 19,.slot 21],none⟩,⟨some 5,none,.freeze,[.slot 22],none⟩])
 (.seq
 (.seq
 (.region [
 ⟨some 23,none,.faddr 18,[.slot 3],none⟩,⟨some 24,none,.load 1 false,[.slot 23],none⟩,⟨some 25,none,.bin .neq,[.slot 24,.val (.int .i64 1)],none⟩])
 (.cond (.slot 25)
 (.region [
 ⟨some 26,none,.id,[.slot 5],none⟩,⟨some 27,none,.call f_x37,[.slot 26],none⟩,⟨some 28,none,.mkfunc f_x67 0,[.slot 3],none⟩,⟨some 29,none,.call f_x39,[.slot 27,.slot 28],none⟩,⟨some 5,none,.freeze,[.slot 29],none⟩])
 (.skip)))
 (.seq
 (.seq
 (.region [
 ⟨some 30,none,.faddr 18,[.slot 3],none⟩,⟨some 31,none,.load 1 false,[.slot 30],none⟩,⟨some 32,none,.bin .eql,[.slot 31,.val (.int .i64 1)],none⟩,⟨some 33,none,.id,[.slot 32],none⟩,⟨some 34,(some (33,false)),.faddr 18,[.slot 3],none⟩,⟨some 35,(some (33,false)),.load 1 false,[.slot 34],none⟩,⟨some 36,(some (33,false)),.bin .eql,[.slot 35,.val (.int .i64 3)],none⟩,⟨some 37,none,.pick,[.slot 33,.val (.bool true),.slot 36],none⟩])
 (.cond (.slot 37)
 (.seq
 (.region [
 ⟨some 38,none,.faddr 0,[.slot 3],none⟩,⟨some 39,none,.load 2 true,[.slot 38],none⟩,⟨some 40,none,.faddr 24,[.slot 3],none⟩,⟨some 41,none,.load 3 true,[.slot 40],none⟩,⟨some 42,none,.build [.int .i64 0,.int .i64 0,.int .i64 0,.int .i64 0,.str ⟨#[]⟩] [(0,2),(2,3)],[.slot 39,.slot 41],none⟩,⟨some 6,none,.allocL [.int .i64 0,.int .i64 0,.int .i64 0,.int .i64 0,.str ⟨#[]⟩],[],none⟩,⟨none,none,.store 5,[.slot 6,.slot 42],none⟩])
 (.seq
 (.region [
 ⟨some 44,none,.id,[.slot 5],none⟩,⟨some 45,none,.load 5 true,[.slot 6],none⟩,⟨some 46,none,.call f_x36,[.slot 44,.slot 45,.val (.func 37 [] [])],none⟩,⟨some 43,none,.id,[.slot 46],none⟩,⟨some 47,none,.extract 0,[.slot 43],none⟩,⟨some 48,none,.extract 1,[.slot 43],none⟩,⟨some 7,none,.id,[.slot 47],none⟩,⟨some 8,none,.id,[.slot 48],none⟩])
 (.region [
 ⟨some 49,none,.id,[.slot 5],none⟩,⟨some 50,none,.call f_x37,[.slot 49],none⟩,⟨some 51,none,.id,[.slot 7],none⟩,⟨some 52,none,.load 5 true,[.slot 6],(some (.loc 6))⟩,⟨some 53,none,.buildSl 5 1 (.agg [.int .i64 0,.int .i64 0,.int .i64 0,.int .i64 0,.str ⟨#[]⟩]) [0],[.slot 52],none⟩,⟨some 54,none,.call f_x44,[.slot 50,.slot 51,.slot 53],none⟩,⟨some 5,none,.freeze,[.slot 54],none⟩])))
 (.skip)))
 (.seq
 (.region [
 ⟨some 55,none,.id,[.slot 0],none⟩,⟨some 56,none,.faddr 19,[.slot 3],none⟩,⟨some 57,none,.load 5 true,[.slot 56],none⟩,⟨some 58,none,.id,[.slot 5],none⟩,⟨some 59,none,.call f_x70,[.slot 55,.slot 57,.slot 58],none⟩])
 (.seq
 (.region [
 ⟨some 4,none,.id,[.val (.int .i64 0)],none⟩])
 (.ret)))))))
def F_x66 : IFun := ⟨60,[.slot 4],b_x66,3,0,nofn⟩
theorem c_store_Store_Do : cFun Tryz.prog [3,1048582,8388613] 0 f_x66 = some F_x66 := by kernel_rfl
def b_x68 : ICode :=
 .seq
 (.region [
 ⟨some 3,none,.boxL,[.slot 1],none⟩,⟨some 4,none,.freeze,[.val .nilsl],none⟩])
 (.seq
 (.seq
 (.region [
 ⟨some 5,none,.id,[.slot 0],none⟩,⟨some 6,none,.eq1 false .ptr,[.slot 5,.val .nilptr],none⟩])
 (.cond (.slot 6)
 (.seq
 (.region [
 ⟨some 4,none,.freeze,[.val .nilsl],none⟩])
 (.ret))
 (.skip)))
 (.seq
 (.region [
 ⟨some 7,none,.id,[.slot 0],none⟩,⟨some 8,none,.nilchk,[.slot 7],none⟩,⟨some 9,none,.faddr 0,[.slot 8],none⟩,⟨some 10,none,.load 1 false,[.slot 9],(some (.heap))⟩,⟨some 11,none,.load 5 true,[.slot 3],(some (.loc 3))⟩,⟨some 12,none,.mlook true [(.int .i64),.str,.str,.str,.str] .nilsl false,[.slot 10,.slot 11],none⟩,⟨some 13,none,.call f_x37,[.slot 12],none⟩,⟨some 4,none,.freeze,[.slot 13],none⟩])
 (.ret)))
def F_x68 : IFun := ⟨14,[.slot 4],b_x68,3,0,nofn⟩
theorem c_store_Store_Entries : cFun Tryz.prog [1048579,8388612] 0 f_x68 = some F_x68 := by kernel_rfl
def L0_x69 : ICode :=
 .seq
 (.region [
 ⟨some 19,none,.bin .lss,[.slot 18,.slot 17],none⟩])
 (.seq
 (.cond (.slot 19)
 (.skip)
 (.exit 0))
 (.seq
 (.block 1
 (.seq
 (.region [
 ⟨some 20,none,.id,[.slot 18],none⟩,⟨some 21,none,.ixaddr 5,[.slot 16,.slot 18],none⟩,⟨some 22,none,.load 5 true,[.slot 21],none⟩,⟨some 6,none,.allocL [.int .i64 0,.int .i64 0,.int .i64 0,.int .i64 0,.str ⟨#[]⟩],[],none⟩,⟨some 5,none,.id,[.slot 20],none⟩,⟨none,none,.store 5,[.slot 6,.slot 22],none⟩])
 (.seq
 (.region [
 ⟨some 23,none,.faddr 0,[.slot 3],none⟩,⟨some 24,none,.load 5 true,[.slot 23],(some (.loc 3))⟩,⟨some 25,none,.load 5 true,[.slot 6],(some (.loc 6))⟩,⟨some 26,none,.call f_x72,[.slot 24,.slot 25],none⟩,⟨some 27,none,.un .not,[.slot 26],none⟩,⟨some 28,none,.id,[.slot 27],none⟩,⟨some 29,(some (28,false)),.id,[.slot 5],none⟩,⟨some 30,(some (28,false)),.bin .gtr,[.slot 29,.val (.int .i64 0)],none⟩,⟨some 31,(some (28,false)),.id,[.slot 30],none⟩,⟨some 32,(some (31,true)),.faddr 5,[.slot 3],none⟩,⟨some 33,(some (31,true)),.load 1 false,[.slot 32],(some (.loc 3))⟩,⟨some 34,(some (31,true)),.id,[.slot 5],none⟩,⟨some 35,(some (31,true)),.bin .sub,[.slot 34,.val (.int .i64 1)],none⟩,⟨some 36,(some (31,true)),.ixaddr 5,[.slot 33,.slot 35],none⟩,⟨some 37,(some (31,true)),.load 5 true,[.slot 36],(some (.el))⟩,⟨some 38,(some (31,true)),.load 5 true,[.slot 6],(some (.loc 6))⟩,⟨some 39,(some (31,true)),.call f_x71,[.slot 37,.slot 38],none⟩,⟨some 40,(some (31,true)),.bin .geq,[.slot 39,.val (.int .i64 0)],none⟩,⟨some 41,(some (28,false)),.pick,[.slot 31,.slot 40,.val (.bool false)],none⟩,⟨some 42,none,.pick,[.slot 28,.val (.bool true),.slot 41],none⟩])
 (.cond (.slot 42)
 (.seq
 (.region [
 ⟨some 4,none,.id,[.val (.int .i64 1)],none⟩])
 (.ret))
 (.skip)))))
 (.region [
 ⟨some 43,none,.bin .add,[.slot 18,.val (.int .i64 1)],none⟩,⟨some 18,none,.id,[.slot 43],none⟩])))
def b_x69 : ICode :=
 .seq
 (.region [
 ⟨some 3,none,.boxL,[.slot 1],none⟩,⟨some 4,none,.id,[.val (.int .i64 0)],none⟩])
 (.seq
 (.seq
 (.region [
 ⟨some 7,none,.id,[.slot 0],none⟩,⟨some 8,none,.eq1 false .ptr,[.slot 7,.val .nilptr],none⟩,⟨some 9,none,.id,[.slot 8],none⟩,⟨some 10,(some (9,false)),.faddr 0,[.slot 3],none⟩,⟨some 11,(some (9,false)),.load 5 true,[.slot 10],none⟩,⟨some 12,(some (9,false)),.call f_x76,[.slot 11],none⟩,⟨some 13,(some (9,false)),.un .not,[.slot 12],none⟩,⟨some 14,none,.pick,[.slot 9,.val (.bool true),.slot 13],none⟩])
 (.cond (.slot 14)
 (.seq
 (.region [
 ⟨some 4,none,.id,[.val (.int .i64 1)],none⟩])
 (.ret))
 (.skip)))
 (.seq
 (.seq
 (.region [
 ⟨some 15,none,.faddr 5,[.slot 3],none⟩,⟨some 16,none,.load 1 false,[.slot 15],none⟩,⟨some 17,none,.lensl,[.slot 16],none⟩,⟨some 18,none,.id,[.val (.int .i64 0)],none⟩])
 (.block 0
 (.loop L0_x69)))
 (.seq
 (.region [
 ⟨some 44,none,.id,[.slot 0],none⟩,⟨some 45,none,.faddr 0,[.slot 3],none⟩,⟨some 46,none,.load 5 true,[.slot 45],(some (.loc 3))⟩,⟨some 47,none,.faddr 5,[.slot 3],none⟩,⟨some 48,none,.load 1 false,[.slot 47],(some (.loc 3))⟩,⟨some 49,none,.call f_x37,[.slot 48],none⟩,⟨some 50,none,.call f_x70,[.slot 44,.slot 46,.slot 49],none⟩])
 (.seq
 (.region [
 ⟨some 4,none,.id,[.val (.int .i64 0)],none⟩])
 (.ret)))))
def F_x69 : IFun := ⟨51,[.slot 4],b_x69,3,0,nofn⟩
theorem c_store_Store_Put : cFun Tryz.prog [1048579,1048582] 0 f_x69 = some F_x69 := by kernel_rfl
def b_x15 : ICode :=
 .seq
 (.region [
 ⟨some 0,none,.id,[.val (.bool false)],none⟩])
 (.seq
 (.region [
 ⟨some 9,none,.build [.int .i64 0,.int .i64 0,.int .i64 0,.int .i64 0,.int .i64 0,.int .i64 0,.int .i64 0,.int .i64 0,.int .i64 0,.int .i64 0,.int .i64 0,.int .i64 0,.int .i64 0,.int .i64 0,.int .i64 0,.int .i64 0,.nilsl,.nilsl] [],[],none⟩,⟨some 10,none,.call f_x46,[.slot 9],none⟩,⟨some 8,none,.id,[.slot 10],none⟩,⟨some 11,none,.extract 0,[.slot 8],none⟩,⟨some 12,none,.extract 1,[.slot 8],none⟩,⟨some 1,none,.id,[.slot 11],none⟩,⟨some 2,none,.id,[.slot 12],none⟩])
 (.seq
 (.region [
 ⟨some 14,none,.id,[.slot 1],none⟩,⟨some 15,none,.call f_x47,[.slot 14],none⟩,⟨some 13,none,.id,[.slot 15],none⟩,⟨some 16,none,.extract 0,[.slot 13],none⟩,⟨some 17,none,.extract 1,[.slot 13],none⟩,⟨some 3,none,.allocL [.int .i64 0,.int .i64 0,.int .i64 0,.int .i64 0,.int .i64 0,.int .i64 0,.int .i64 0,.int .i64 0,.int .i64 0,.int .i64 0,.int .i64 0,.int .i64 0,.int .i64 0,.int .i64 0,.int .i64 0,.int .i64 0,.nilsl,.nilsl],[],none⟩,⟨none,none,.store 18,[.slot 3,.slot 16],none⟩,⟨some 4,none,.id,[.slot 17],none⟩])
 (.seq
 (.region [
 ⟨some 19,none,.buildSl 1 1 (.int .u8 0) [0],[.val (.int .u8 1)],none⟩,⟨some 20,none,.call f_x47,[.slot 19],none⟩,⟨some 18,none,.id,[.slot 20],none⟩,⟨some 21,none,.extract 0,[.slot 18],none⟩,⟨some 22,none,.extract 1,[.slot 18],none⟩,⟨some 5,none,.allocL [.int .i64 0,.int .i64 0,.int .i64 0,.int .i64 0,.int .i64 0,.int .i64 0,.int .i64 0,.int .i64 0,.int .i64 0,.int .i64 0,.int .i64 0,.int .i64 0,.int .i64 0,.int .i64 0,.int .i64 0,.int .i64 0,.nilsl,.nilsl],[],none⟩,⟨none,none,.store 18,[.slot 5,.slot 21],none⟩,⟨some 6,none,.id,[.slot 22],none⟩])
 (.seq
 (.region [
 ⟨some 23,none,.build [.int .i64 0,.int .i64 0,.int .i64 0,.int .i64 0,.int .i64 0,.int .i64 0,.int .i64 0,.int .i64 0,.int .i64 0,.int .i64 0,.int .i64 0,.int .i64 0,.int .i64 0,.int .i64 0,.int .i64 0,.int .i64 0,.int .i64 0,.int .i64 0,.int .i64 0,.int .i64 0,.str ⟨#[]⟩,.str ⟨#[]⟩,.str ⟨#[]⟩,.str ⟨#[]⟩,.int .i64 0,.int .i64 0,.str ⟨#[]⟩] [],[],none⟩,⟨some 24,none,.buildSl 27 1 (.agg [.int .i64 0,.int .i64 0,.int .i64 0,.int .i64 0,.int .i64 0,.int .i64 0,.int .i64 0,.int .i64 0,.int .i64 0,.int .i64 0,.int .i64 0,.int .i64 0,.int .i64 0,.int .i64 0,.int .i64 0,.int .i64 0,.int .i64 0,.int .i64 0,.int .i64 0,.int .i64 0,.str ⟨#[]⟩,.str ⟨#[]⟩,.str ⟨#[]⟩,.str ⟨#[]⟩,.int .i64 0,.int .i64 0,.str ⟨#[]⟩]) [0],[.slot 23],none⟩,⟨some 25,none,.build [.int .i64 0,.int .i64 0,.int .i64 0,.int .i64 0,.int .i64 0,.int .i64 0,.int .i64 0,.int .i64 0,.int .i64 0,.int .i64 0,.int .i64 0,.int .i64 0,.int .i64 0,.int .i64 0,.int .i64 0,.int .i64 0,.nilsl,.nilsl] [(17,1)],[.slot 24],none⟩,⟨some 7,none,.allocL [.int .i64 0,.int .i64 0,.int .i64 0,.int .i64 0,.int .i64 0,.int .i64 0,.int .i64 0,.int .i64 0,.int .i64 0,.int .i64 0,.int .i64 0,.int .i64 0,.int .i64 0,.int .i64 0,.int .i64 0,.int .i64 0,.nilsl,.nilsl],[],none⟩,⟨none,none,.store 18,[.slot 7,.slot 25],none⟩])
 (.seq
 (.region [
 ⟨some 26,none,.id,[.slot 2],none⟩,⟨some 27,none,.bin .eql,[.slot 26,.val (.int .i64 0)],none⟩,⟨some 28,none,.id,[.slot 27],none⟩,⟨some 29,(some (28,true)),.id,[.slot 1],none⟩,⟨some 30,(some (28,true)),.lensl,[.slot 29],none⟩,⟨some 31,(some (28,true)),.bin .eql,[.slot 30,.val (.int .i64 18)],none⟩,⟨some 32,none,.pick,[.slot 28,.slot 31,.val (.bool false)],none⟩,⟨some 33,none,.id,[.slot 32],none⟩,⟨some 34,(some (33,true)),.id,[.slot 4],none⟩,⟨some 35,(some (33,true)),.bin .eql,[.slot 34,.val (.int .i64 0)],none⟩,⟨some 36,none,.pick,[.slot 33,.slot 35,.val (.bool false)],none⟩,⟨some 37,none,.id,[.slot 36],none⟩,⟨some 38,(some (37,true)),.load 18 true,[.slot 3],none⟩,⟨some 39,(some (37,true)),.build [.int .i64 0,.int .i64 0,.int .i64 0,.int .i64 0,.int .i64 0,.int .i64 0,.int .i64 0,.int .i64 0,.int .i64 0,.int .i64 0,.int .i64 0,.int .i64 0,.int .i64 0,.int .i64 0,.int .i64 0,.int .i64 0,.nilsl,.nilsl] [],[],none⟩,⟨some 40,(some (37,true)),.call f_x50,[.slot 38,.slot 39],none⟩,⟨some 41,none,.pick,[.slot 37,.slot 40,.val (.bool false)],none⟩,⟨some 42,none,.id,[.slot 41],none⟩,⟨some 43,(some (42,true)),.id,[.slot 6],none⟩,⟨some 44,(some (42,true)),.bin .eql,[.slot 43,.val (.int .i64 2)],none⟩,⟨some 45,none,.pick,[.slot 42,.slot 44,.val (.bool false)],none⟩,⟨some 46,none,.id,[.slot 45],none⟩,⟨some 47,(some (46,true)),.load 18 true,[.slot 7],none⟩,⟨some 48,(some (46,true)),.call f_x49,[.slot 47],none⟩,⟨some 49,(some (46,true)),.bin .eql,[.slot 48,.val (.int .i64 1)],none⟩,⟨some 50,none,.pick,[.slot 46,.slot 49,.val (.bool false)],none⟩,⟨some 51,none,.id,[.slot 50],none⟩,⟨some 52,(some (51,true)),.load 18 true,[.slot 7],none⟩,⟨some 53,(some (51,true)),.load 18 true,[.slot 3],none⟩,⟨some 54,(some (51,true)),.call f_x50,[.slot 52,.slot 53],none⟩,⟨some 55,(some (51,true)),.un .not,[.slot 54],none⟩,⟨some 56,none,.pick,[.slot 51,.slot 55,.val (.bool false)],none⟩,⟨some 0,none,.id,[.slot 56],none⟩])
 (.ret))))))
def F_x15 : IFun := ⟨57,[.slot 0],b_x15,3,2,nofn⟩
theorem c_hedgerowlaw12_fixed : cFun Tryz.prog [1048579,1048581,1048583,2097177,2097178] 2 f_x15 = some F_x15 := by kernel_rfl
def b_x24 : ICode :=
 .seq
 (.region [
 ⟨some 1,none,.boxL,[.slot 0],none⟩,⟨some 2,none,.id,[.val (.bool false)],none⟩])
 (.seq
 (.region [
 ⟨some 3,none,.faddr 19,[.slot 1],none⟩,⟨some 4,none,.faddr 1,[.slot 3],none⟩,⟨some 5,none,.load 1 false,[.slot 4],none⟩,⟨some 6,none,.lenstr,[.slot 5],none⟩,⟨some 7,none,.faddr 19,[.slot 1],none⟩,⟨some 8,none,.faddr 2,[.slot 7],none⟩,⟨some 9,none,.load 1 false,[.slot 8],none⟩,⟨some 10,none,.lenstr,[.slot 9],none⟩,⟨some 11,none,.bin .add,[.slot 6,.slot 10],none⟩,⟨some 12,none,.faddr 19,[.slot 1],none⟩,⟨some 13,none,.faddr 3,[.slot 12],none⟩,⟨some 14,none,.load 1 false,[.slot 13],none⟩,⟨some 15,none,.lenstr,[.slot 14],none⟩,⟨some 16,none,.bin .add,[.slot 11,.slot 15],none⟩,⟨some 17,none,.faddr 19,[.slot 1],none⟩,⟨some 18,none,.faddr 4,[.slot 17],none⟩,⟨some 19,none,.load 1 false,[.slot 18],none⟩,⟨some 20,none,.lenstr,[.slot 19],none⟩,⟨some 21,none,.bin .add,[.slot 16,.slot 20],none⟩,⟨some 22,none,.faddr 24,[.slot 1],none⟩,⟨some 23,none,.faddr 2,[.slot 22],none⟩,⟨some 24,none,.load 1 false,[.slot 23],none⟩,⟨some 25,none,.lenstr,[.slot 24],none⟩,⟨some 26,none,.bin .add,[.slot 21,.slot 25],none⟩,⟨some 27,none,.bin .leq,[.slot 26,.val (.int .i64 300)],none⟩,⟨some 2,none,.id,[.slot 27],none⟩])
 (.ret))
def F_x24 : IFun := ⟨28,[.slot 2],b_x24,3,0,nofn⟩
theorem c_hedgerowref06_Short : cFun Tryz.prog [1048577] 0 f_x24 = some F_x24 := by kernel_rfl
def L0_x46 : ICode :=
 .seq
 (.region [
 ⟨some 20,none,.bin .lss,[.slot 19,.val (.int .i64 16)],none⟩])
 (.seq
 (.cond (.slot 20)
 (.skip)
 (.exit 0))
 (.seq
 (.block 1
 (.seq
 (.region [
 ⟨some 21,none,.ixarr 16 1 false,[.slot 18,.slot 19],none⟩,⟨some 7,none,.id,[.slot 21],none⟩])
 (.region [
 ⟨some 22,none,.id,[.slot 5],none⟩,⟨some 23,none,.id,[.slot 7],none⟩,⟨some 24,none,.call f_x26,[.slot 22,.slot 23],none⟩,⟨some 5,none,.id,[.slot 24],none⟩])))
 (.region [
 ⟨some 25,none,.bin .add,[.slot 19,.val (.int .i64 1)],none⟩,⟨some 19,none,.id,[.slot 25],none⟩])))
def L1_x46 : ICode :=
 .seq
 (.region [
 ⟨some 35,none,.bin .lss,[.slot 34,.slot 33],none⟩])
 (.seq
 (.cond (.slot 35)
 (.skip)
 (.exit 2))
 (.seq
 (.block 3
 (.seq
 (.region [
 ⟨some 36,none,.ixaddr 6,[.slot 32,.slot 34],none⟩,⟨some 37,none,.load 6 true,[.slot 36],none⟩,⟨some 9,none,.allocL [.int .i64 0,.str ⟨#[]⟩,.str ⟨#[]⟩,.str ⟨#[]⟩,.str ⟨#[]⟩,.nilsl],[],none⟩,⟨none,none,.store 6,[.slot 9,.slot 37],none⟩])
 (.region [
 ⟨some 38,none,.id,[.slot 5],none⟩,⟨some 39,none,.load 6 true,[.slot 9],none⟩,⟨some 40,none,.call f_x55,[.slot 38,.slot 39],none⟩,⟨some 5,none,.id,[.slot 40],none⟩])))
 (.region [
 ⟨some 41,none,.bin .add,[.slot 34,.val (.int .i64 1)],none⟩,⟨some 34,none,.id,[.slot 41],none⟩])))
def L2_x46 : ICode :=
 .seq
 (.region [
 ⟨some 51,none,.bin .lss,[.slot 50,.slot 49],none⟩])
 (.seq
 (.cond (.slot 51)
 (.skip)
 (.exit 4))
 (.seq
 (.block 5
 (.seq
 (.region [
 ⟨some 52,none,.ixaddr 27,[.slot 48,.slot 50],none⟩,⟨some 53,none,.load 27 true,[.slot 52],none⟩,⟨some 11,none,.allocL [.int .i64 0,.int .i64 0,.int .i64 0,.int .i64 0,.int .i64 0,.int .i64 0,.int .i64 0,.int .i64 0,.int .i64 0,.int .i64 0,.int .i64 0,.int .i64 0,.int .i64 0,.int .i64 0,.int .i64 0,.int .i64 0,.int .i64 0,.int .i64 0,.int .i64 0,.int .i64 0,.str ⟨#[]⟩,.str ⟨#[]⟩,.str ⟨#[]⟩,.str ⟨#[]⟩,.int .i64 0,.int .i64 0,.str ⟨#[]⟩],[],none⟩,⟨none,none,.store 27,[.slot 11,.slot 53],none⟩])
 (.region [
 ⟨some 54,none,.id,[.slot 5],none⟩,⟨some 55,none,.load 27 true,[.slot 11],none⟩,⟨some 56,none,.call f_x7,[.slot 54,.slot 55],none⟩,⟨some 5,none,.id,[.slot 56],none⟩])))
 (.region [
 ⟨some 57,none,.bin .add,[.slot 50,.val (.int .i64 1)],none⟩,⟨some 50,none,.id,[.slot 57],none⟩])))
def b_x46 : ICode :=
 .seq
 (.region [
 ⟨some 1,none,.boxL,[.slot 0],none⟩,⟨some 2,none,.id,[.val .nilsl],none⟩,⟨some 3,none,.id,[.val (.int .i64 0)],none⟩])
 (.seq
 (.seq
 (.region [
 ⟨some 12,none,.load 18 true,[.slot 1],none⟩,⟨some 13,none,.call f_x49,[.slot 12],none⟩,⟨some 4,none,.id,[.slot 13],none⟩])
 (.seq
 (.region [
 ⟨some 14,none,.id,[.slot 4],none⟩,⟨some 15,none,.bin .neq,[.slot 14,.val (.int .i64 0)],none⟩])
 (.cond (.slot 15)
 (.seq
 (.region [
 ⟨some 16,none,.id,[.slot 4],none⟩,⟨some 2,none,.id,[.val .nilsl],none⟩,⟨some 3,none,.id,[.slot 16],none⟩])
 (.ret))
 (.skip))))
 (.seq
 (.region [
 ⟨some 5,none,.id,[.val .nilsl],none⟩])
 (.seq
 (.seq
 (.region [
 ⟨some 17,none,.faddr 0,[.slot 1],none⟩,⟨some 18,none,.load 16 true,[.slot 17],none⟩,⟨some 19,none,.id,[.val (.int .i64 0)],none⟩])
 (.block 0
 (.loop L0_x46)))
 (.seq
 (.region [
 ⟨some 26,none,.id,[.slot 5],none⟩,⟨some 27,none,.faddr 16,[.slot 1],none⟩,⟨some 28,none,.load 1 false,[.slot 27],none⟩,⟨some 29,none,.lensl,[.slot 28],none⟩,⟨some 30,none,.call f_x26,[.slot 26,.slot 29],none⟩,⟨some 5,none,.id,[.slot 30],none⟩])
 (.seq
 (.seq
 (.region [
 ⟨some 31,none,.faddr 16,[.slot 1],none⟩,⟨some 32,none,.load 1 false,[.slot 31],none⟩,⟨some 33,none,.lensl,[.slot 32],none⟩,⟨some 34,none,.id,[.val (.int .i64 0)],none⟩])
 (.block 2
 (.loop L1_x46)))
 (.seq
 (.region [
 ⟨some 42,none,.id,[.slot 5],none⟩,⟨some 43,none,.faddr 17,[.slot 1],none⟩,⟨some 44,none,.load 1 false,[.slot 43],none⟩,⟨some 45,none,.lensl,[.slot 44],none⟩,⟨some 46,none,.call f_x26,[.slot 42,.slot 45],none⟩,⟨some 5,none,.id,[.slot 46],none⟩])
 (.seq
 (.seq
 (.region [
 ⟨some 47,none,.faddr 17,[.slot 1],none⟩,⟨some 48,none,.load 1 false,[.slot 47],none⟩,⟨some 49,none,.lensl,[.slot 48],none⟩,⟨some 50,none,.id,[.val (.int .i64 0)],none⟩])
 (.block 4
 (.loop L2_x46)))
 (.seq
 (.region [
 ⟨some 58,none,.id,[.slot 5],none⟩,⟨some 2,none,.id,[.slot 58],none⟩,⟨some 3,none,.id,[.val (.int .i64 0)],none⟩])
 (.ret)))))))))
def F_x46 : IFun := ⟨59,[.slot 2,.slot 3],b_x46,3,1,nofn⟩
theorem c_snap_Bytes : cFun Tryz.prog [1048577,1048585,1048587] 1 f_x46 = some F_x46 := by kernel_rfl
def L0_x47 : ICode :=
 .seq
 (.region [
 ⟨some 11,none,.bin .lss,[.slot 10,.val (.int .i64 16)],none⟩])
 (.seq
 (.cond (.slot 11)
 (.skip)
 (.exit 0))
 (.seq
 (.block 1
 (.seq
 (.region [
 ⟨some 12,none,.id,[.slot 10],none⟩,⟨some 6,none,.id,[.slot 12],none⟩])
 (.region [
 ⟨some 13,none,.id,[.slot 6],none⟩,⟨some 14,none,.id,[.slot 4],none⟩,⟨some 15,none,.call f_x30,[.slot 14,.val (.int .i64 4611686018427387903)],none⟩,⟨some 16,none,.faddr 0,[.slot 5],none⟩,⟨some 17,none,.ixaddrA 16 1,[.slot 16,.slot 13],none⟩,⟨none,none,.store 1,[.slot 17,.slot 15],none⟩])))
 (.region [
 ⟨some 18,none,.bin .add,[.slot 10,.val (.int .i64 1)],none⟩,⟨some 10,none,.id,[.slot 18],none⟩])))
def b_x47 : ICode :=
 .seq
 (.region [
 ⟨some 2,none,.allocL [.int .i64 0,.int .i64 0,.int .i64 0,.int .i64 0,.int .i64 0,.int .i64 0,.int .i64 0,.int .i64 0,.int .i64 0,.int .i64 0,.int .i64 0,.int .i64 0,.int .i64 0,.int .i64 0,.int .i64 0,.int .i64 0,.nilsl,.nilsl],[],none⟩,⟨some 3,none,.id,[.val (.int .i64 0)],none⟩])
 (.seq
 (.region [
 ⟨some 8,none,.id,[.slot 0],none⟩,⟨some 9,none,.call f_x27,[.slot 8],none⟩,⟨some 4,none,.id,[.slot 9],none⟩])
 (.seq
 (.region [
 ⟨some 5,none,.allocL [.int .i64 0,.int .i64 0,.int .i64 0,.int .i64 0,.int .i64 0,.int .i64 0,.int .i64 0,.int .i64 0,.int .i64 0,.int .i64 0,.int .i64 0,.int .i64 0,.int .i64 0,.int .i64 0,.int .i64 0,.int .i64 0,.nilsl,.nilsl],[],none⟩])
 (.seq
 (.seq
 (.region [
 ⟨some 10,none,.id,[.val (.int .i64 0)],none⟩])
 (.block 0
 (.loop L0_x47)))
 (.seq
 (.region [
 ⟨some 19,none,.id,[.slot 4],none⟩,⟨some 20,none,.call f_x61,[.slot 19,.val (.func 57 [] [])],none⟩,⟨some 21,none,.faddr 16,[.slot 5],none⟩,⟨none,none,.store 1,[.slot 21,.slot 20],none⟩])
 (.seq
 (.region [
 ⟨some 7,none,.allocH 4 [(.bool false)],[],none⟩,⟨none,none,.store 1,[.slot 7,.val (.bool false)],none⟩])
 (.seq
 (.region [
 ⟨some 22,none,.id,[.slot 4],none⟩,⟨some 23,none,.mkfunc f_x48 0,[.slot 7],none⟩,⟨some 24,none,.call f_x59,[.slot 22,.slot 23],none⟩,⟨some 25,none,.faddr 17,[.slot 5],none⟩,⟨none,none,.store 1,[.slot 25,.slot 24],none⟩])
 (.seq
 (.seq
 (.region [
 ⟨some 26,none,.id,[.slot 4],none⟩,⟨some 27,none,.call f_x28,[.slot 26],none⟩,⟨some 28,none,.un .not,[.slot 27],none⟩])
 (.cond (.slot 28)
 (.seq
 (.region [
 ⟨some 29,none,.build [.int .i64 0,.int .i64 0,.int .i64 0,.int .i64 0,.int .i64 0,.int .i64 0,.int .i64 0,.int .i64 0,.int .i64 0,.int .i64 0,.int .i64 0,.int .i64 0,.int .i64 0,.int .i64 0,.int .i64 0,.int .i64 0,.nilsl,.nilsl] [],[],none⟩,⟨none,none,.store 18,[.slot 2,.slot 29],none⟩,⟨some 3,none,.id,[.val (.int .i64 2)],none⟩])
 (.ret))
 (.skip)))
 (.seq
 (.seq
 (.region [
 ⟨some 30,none,.load 1 false,[.slot 7],none⟩,⟨some 31,none,.id,[.slot 30],none⟩,⟨some 32,(some (31,false)),.load 18 true,[.slot 5],none⟩,⟨some 33,(some (31,false)),.call f_x49,[.slot 32],none⟩,⟨some 34,(some (31,false)),.bin .neq,[.slot 33,.val (.int .i64 0)],none⟩,⟨some 35,none,.pick,[.slot 31,.val (.bool true),.slot 34],none⟩])
 (.cond (.slot 35)
 (.seq
 (.region [
 ⟨some 36,none,.build [.int .i64 0,.int .i64 0,.int .i64 0,.int .i64 0,.int .i64 0,.int .i64 0,.int .i64 0,.int .i64 0,.int .i64 0,.int .i64 0,.int .i64 0,.int .i64 0,.int .i64 0,.int .i64 0,.int .i64 0,.int .i64 0,.nilsl,.nilsl] [],[],none⟩,⟨none,none,.store 18,[.slot 2,.slot 36],none⟩,⟨some 3,none,.id,[.val (.int .i64 1)],none⟩])
 (.ret))
 (.skip)))
 (.seq
 (.region [
 ⟨some 37,none,.load 18 true,[.slot 5],none⟩,⟨none,none,.store 18,[.slot 2,.slot 37],none⟩,⟨some 3,none,.id,[.val (.int .i64 0)],none⟩])
 (.ret))))))))))
def F_x47 : IFun := ⟨38,[.cell 2 18 true,.slot 3],b_x47,3,1,nofn⟩
theorem c_snap_Parse : cFun Tryz.prog [7,1048578,1048581,2097214] 1 f_x47 = some F_x47 := by kernel_rfl
def L0_x52 : ICode :=
 .seq
 (.region [
 ⟨some 11,none,.bin .lss,[.slot 10,.slot 9],none⟩])
 (.seq
 (.cond (.slot 11)
 (.skip)
 (.exit 0))
 (.seq
 (.block 1
 (.seq
 (.region [
 ⟨some 12,none,.ixaddr 6,[.slot 8,.slot 10],none⟩,⟨some 13,none,.load 6 true,[.slot 12],none⟩,⟨some 5,none,.allocL [.int .i64 0,.str ⟨#[]⟩,.str ⟨#[]⟩,.str ⟨#[]⟩,.str ⟨#[]⟩,.nilsl],[],none⟩,⟨none,none,.store 6,[.slot 5,.slot 13],none⟩])
 (.region [
 ⟨some 14,none,.id,[.slot 3],none⟩,⟨some 15,none,.load 6 true,[.slot 5],none⟩,⟨some 16,none,.call f_x69,[.slot 14,.slot 15],none⟩])))
 (.region [
 ⟨some 17,none,.bin .add,[.slot 10,.val (.int .i64 1)],none⟩,⟨some 10,none,.id,[.slot 17],none⟩])))
def b_x52 : ICode :=
 .seq
 (.region [
 ⟨some 1,none,.boxL,[.slot 0],none⟩,⟨some 2,none,.id,[.val .nilptr],none⟩])
 (.seq
 (.region [
 ⟨some 6,none,.call f_x62,[],none⟩,⟨some 3,none,.id,[.slot 6],none⟩])
 (.seq
 (.seq
 (.region [
 ⟨some 7,none,.faddr 16,[.slot 1],none⟩,⟨some 8,none,.load 1 false,[.slot 7],none⟩,⟨some 9,none,.lensl,[.slot 8],none⟩,⟨some 10,none,.id,[.val (.int .i64 0)],none⟩])
 (.block 0
 (.loop L0_x52)))
 (.seq
 (.region [
 ⟨some 18,none,.id,[.slot 3],none⟩,⟨some 2,none,.id,[.slot 18],none⟩])
 (.ret))))
def F_x52 : IFun := ⟨19,[.slot 2],b_x52,3,0,nofn⟩
theorem c_snap_Store : cFun Tryz.prog [1048577,1048581] 0 f_x52 = some F_x52 := by kernel_rfl
def b_x50 : ICode :=
 .seq
 (.region [
 ⟨some 2,none,.boxL,[.slot 0],none⟩,⟨some 3,none,.boxL,[.slot 1],none⟩,⟨some 4,none,.id,[.val (.bool false)],none⟩])
 (.seq
 (.region [
 ⟨some 5,none,.id,[.val (.func 63 [] [])],none⟩])
 (.seq
 (.region [
 ⟨some 6,none,.faddr 0,[.slot 2],none⟩,⟨some 7,none,.load 16 true,[.slot 6],none⟩,⟨some 8,none,.faddr 0,[.slot 3],none⟩,⟨some 9,none,.load 16 true,[.slot 8],none⟩,⟨some 10,none,.eqv false [(.int .i64),(.int .i64),(.int .i64),(.int .i64),(.int .i64),(.int .i64),(.int .i64),(.int .i64),(.int .i64),(.int .i64),(.int .i64),(.int .i64),(.int .i64),(.int .i64),(.int .i64),(.int .i64)],[.slot 7,.slot 9],none⟩,⟨some 11,none,.id,[.slot 10],none⟩,⟨some 12,(some (11,true)),.faddr 16,[.slot 2],none⟩,⟨some 13,(some (11,true)),.load 1 false,[.slot 12],none⟩,⟨some 14,(some (11,true)),.faddr 16,[.slot 3],none⟩,⟨some 15,(some (11,true)),.load 1 false,[.slot 14],none⟩,⟨some 16,(some (11,true)),.id,[.slot 5],none⟩,⟨some 17,(some (11,true)),.call f_x40,[.slot 13,.slot 15,.slot 16],none⟩,⟨some 18,none,.pick,[.slot 11,.slot 17,.val (.bool false)],none⟩,⟨some 19,none,.id,[.slot 18],none⟩,⟨some 20,(some (19,true)),.faddr 17,[.slot 2],none⟩,⟨some 21,(some (19,true)),.load 1 false,[.slot 20],none⟩,⟨some 22,(some (19,true)),.faddr 17,[.slot 3],none⟩,⟨some 23,(some (19,true)),.load 1 false,[.slot 22],none⟩,⟨some 24,(some (19,true)),.call f_x41,[.slot 21,.slot 23],none⟩,⟨some 25,none,.pick,[.slot 19,.slot 24,.val (.bool false)],none⟩,⟨some 4,none,.id,[.slot 25],none⟩])
 (.ret)))
def F_x50 : IFun := ⟨26,[.slot 4],b_x50,3,0,nofn⟩
theorem c_snap_Same : cFun Tryz.prog [1048578,1048579] 0 f_x50 = some F_x50 := by kernel_rfl
def b_x63 : ICode :=
 .seq
 (.region [
 ⟨some 2,none,.boxL,[.slot 0],none⟩,⟨some 3,none,.boxL,[.slot 1],none⟩,⟨some 4,none,.id,[.val (.int .i64 0)],none⟩])
 (.seq
 (.region [
 ⟨some 5,none,.faddr 0,[.slot 2],none⟩,⟨some 6,none,.load 1 false,[.slot 5],(some (.loc 2))⟩,⟨some 7,none,.faddr 0,[.slot 3],none⟩,⟨some 8,none,.load 1 false,[.slot 7],(some (.loc 3))⟩,⟨some 9,none,.call f_x0,[.slot 6,.slot 8],none⟩,⟨some 10,none,.faddr 1,[.slot 2],none⟩,⟨some 11,none,.load 1 false,[.slot 10],(some (.loc 2))⟩,⟨some 12,none,.faddr 1,[.slot 3],none⟩,⟨some 13,none,.load 1 false,[.slot 12],(some (.loc 3))⟩,⟨some 14,none,.call f_x1,[.slot 11,.slot 13],none⟩,⟨some 15,none,.faddr 2,[.slot 2],none⟩,⟨some 16,none,.load 1 false,[.slot 15],(some (.loc 2))⟩,⟨some 17,none,.faddr 2,[.slot 3],none⟩,⟨some 18,none,.load 1 false,[.slot 17],(some (.loc 3))⟩,⟨some 19,none,.call f_x1,[.slot 16,.slot 18],none⟩,⟨some 20,none,.faddr 3,[.slot 2],none⟩,⟨some 21,none,.load 1 false,[.slot 20],(some (.loc 2))⟩,⟨some 22,none,.faddr 3,[.slot 3],none⟩,⟨some 23,none,.load 1 false,[.slot 22],(some (.loc 3))⟩,⟨some 24,none,.call f_x1,[.slot 21,.slot 23],none⟩,⟨some 25,none,.faddr 4,[.slot 2],none⟩,⟨some 26,none,.load 1 false,[.slot 25],(some (.loc 2))⟩,⟨some 27,none,.faddr 4,[.slot 3],none⟩,⟨some 28,none,.load 1 false,[.slot 27],(some (.loc 3))⟩,⟨some 29,none,.call f_x1,[.slot 26,.slot 28],none⟩,⟨some 30,none,.buildSl 1 5 (.int .i64 0) [0,1,2,3,4],[.slot 9,.slot 14,.slot 19,.slot 24,.slot 29],none⟩,⟨some 31,none,.call f_x2,[.slot 30],none⟩,⟨some 4,none,.id,[.slot 31],none⟩])
 (.ret))
def F_x63 : IFun := ⟨32,[.slot 4],b_x63,3,0,nofn⟩
theorem c_store_Order : cFun Tryz.prog [1048578,1048579] 0 f_x63 = some F_x63 := by kernel_rfl
def L0_x23 : ICode :=
 .seq
 (.region [
 ⟨some 29,none,.bin .lss,[.slot 28,.val (.int .i64 16)],none⟩])
 (.seq
 (.cond (.slot 29)
 (.skip)
 (.exit 0))
 (.seq
 (.block 1
 (.seq
 (.region [
 ⟨some 30,none,.ixarr 16 1 false,[.slot 27,.slot 28],none⟩,⟨some 5,none,.id,[.slot 30],none⟩])
 (.seq
 (.region [
 ⟨some 31,none,.id,[.slot 5],none⟩,⟨some 32,none,.bin .lss,[.slot 31,.val (.int .i64 0)],none⟩,⟨some 33,none,.id,[.slot 32],none⟩,⟨some 34,(some (33,false)),.id,[.slot 5],none⟩,⟨some 35,(some (33,false)),.bin .gtr,[.slot 34,.val (.int .i64 1048576)],none⟩,⟨some 36,none,.pick,[.slot 33,.val (.bool true),.slot 35],none⟩])
 (.cond (.slot 36)
 (.seq
 (.region [
 ⟨some 2,none,.id,[.val (.bool false)],none⟩])
 (.ret))
 (.skip)))))
 (.region [
 ⟨some 37,none,.bin .add,[.slot 28,.val (.int .i64 1)],none⟩,⟨some 28,none,.id,[.slot 37],none⟩])))
def b_x23 : ICode :=
 .seq
 (.region [
 ⟨some 1,none,.boxL,[.slot 0],none⟩,⟨some 2,none,.id,[.val (.bool false)],none⟩])
 (.seq
 (.region [
 ⟨some 6,none,.faddr 0,[.slot 1],none⟩,⟨some 7,none,.load 2 true,[.slot 6],none⟩,⟨some 3,none,.allocL [.int .i64 0,.int .i64 0],[],none⟩,⟨none,none,.store 2,[.slot 3,.slot 7],none⟩])
 (.seq
 (.seq
 (.region [
 ⟨some 8,none,.faddr 0,[.slot 3],none⟩,⟨some 9,none,.load 1 false,[.slot 8],none⟩,⟨some 10,none,.bin .lss,[.slot 9,.val (.int .i64 0)],none⟩,⟨some 11,none,.id,[.slot 10],none⟩,⟨some 12,(some (11,false)),.faddr 0,[.slot 3],none⟩,⟨some 13,(some (11,false)),.load 1 false,[.slot 12],none⟩,⟨some 14,(some (11,false)),.bin .gtr,[.slot 13,.val (.int .i64 15)],none⟩,⟨some 15,none,.pick,[.slot 11,.val (.bool true),.slot 14],none⟩,⟨some 16,none,.id,[.slot 15],none⟩,⟨some 17,(some (16,false)),.faddr 1,[.slot 3],none⟩,⟨some 18,(some (16,false)),.load 1 false,[.slot 17],none⟩,⟨some 19,(some (16,false)),.bin .lss,[.slot 18,.val (.int .i64 1)],none⟩,⟨some 20,none,.pick,[.slot 16,.val (.bool true),.slot 19],none⟩,⟨some 21,none,.id,[.slot 20],none⟩,⟨some 22,(some (21,false)),.faddr 1,[.slot 3],none⟩,⟨some 23,(some (21,false)),.load 1 false,[.slot 22],none⟩,⟨some 24,(some (21,false)),.bin .gtr,[.slot 23,.val (.int .i64 1048576)],none⟩,⟨some 25,none,.pick,[.slot 21,.val (.bool true),.slot 24],none⟩])
 (.cond (.slot 25)
 (.seq
 (.region [
 ⟨some 2,none,.id,[.val (.bool false)],none⟩])
 (.ret))
 (.skip)))
 (.seq
 (.seq
 (.region [
 ⟨some 26,none,.faddr 2,[.slot 1],none⟩,⟨some 27,none,.load 16 true,[.slot 26],none⟩,⟨some 28,none,.id,[.val (.int .i64 0)],none⟩])
 (.block 0
 (.loop L0_x23)))
 (.seq
 (.region [
 ⟨some 38,none,.faddr 0,[.slot 3],none⟩,⟨some 39,none,.load 1 false,[.slot 38],(some (.loc 3))⟩,⟨some 40,none,.faddr 2,[.slot 1],none⟩,⟨some 41,none,.ixaddrA 16 1,[.slot 40,.slot 39],none⟩,⟨some 42,none,.load 1 false,[.slot 41],(some (.loc 1))⟩,⟨some 43,none,.faddr 1,[.slot 3],none⟩,⟨some 44,none,.load 1 false,[.slot 43],(some (.loc 3))⟩,⟨some 45,none,.bin .sub,[.slot 44,.val (.int .i64 1)],none⟩,⟨some 46,none,.bin .eql,[.slot 42,.slot 45],none⟩,⟨some 47,none,.id,[.slot 46],none⟩,⟨some 48,(some (47,true)),.faddr 18,[.slot 1],none⟩,⟨some 49,(some (47,true)),.load 1 false,[.slot 48],(some (.loc 1))⟩,⟨some 50,(some (47,true)),.faddr 19,[.slot 1],none⟩,⟨some 51,(some (47,true)),.load 5 true,[.slot 50],(some (.loc 1))⟩,⟨some 52,(some (47,true)),.faddr 24,[.slot 1],none⟩,⟨some 53,(some (47,true)),.load 3 true,[.slot 52],(some (.loc 1))⟩,⟨some 54,(some (47,true)),.build [.int .i64 0,.int .i64 0,.str ⟨#[]⟩,.str ⟨#[]⟩,.str ⟨#[]⟩,.str ⟨#[]⟩,.int .i64 0,.int .i64 0,.str ⟨#[]⟩] [(0,1),(1,5),(6,3)],[.slot 49,.slot 51,.slot 53],none⟩,⟨some 55,(some (47,true)),.call f_x22,[.slot 54],none⟩,⟨some 56,none,.pick,[.slot 47,.slot 55,.val (.bool false)],none⟩,⟨some 2,none,.id,[.slot 56],none⟩])
 (.ret)))))
def F_x23 : IFun := ⟨57,[.slot 2],b_x23,3,0,nofn⟩
theorem c_hedgerowref06_Right : cFun Tryz.prog [1048577,1048579] 0 f_x23 = some F_x23 := by kernel_rfl
def b_x9 : ICode :=
 .seq
 (.region [
 ⟨some 1,none,.boxL,[.slot 0],none⟩,⟨some 2,none,.id,[.val (.int .i64 0)],none⟩])
 (.seq
 (.seq
 (.region [
 ⟨some 3,none,.faddr 2,[.slot 1],none⟩,⟨some 4,none,.load 16 true,[.slot 3],none⟩,⟨some 5,none,.faddr 0,[.slot 1],none⟩,⟨some 6,none,.load 2 true,[.slot 5],none⟩,⟨some 7,none,.call f_x87,[.slot 4,.slot 6],none⟩,⟨some 8,none,.un .not,[.slot 7],none⟩,⟨some 9,none,.id,[.slot 8],none⟩,⟨some 10,(some (9,false)),.faddr 2,[.slot 1],none⟩,⟨some 11,(some (9,false)),.load 16 true,[.slot 10],none⟩,⟨some 12,(some (9,false)),.call f_x88,[.slot 11],none⟩,⟨some 13,(some (9,false)),.un .not,[.slot 12],none⟩,⟨some 14,none,.pick,[.slot 9,.val (.bool true),.slot 13],none⟩])
 (.cond (.slot 14)
 (.seq
 (.region [
 ⟨some 2,none,.id,[.val (.int .i64 1)],none⟩])
 (.ret))
 (.skip)))
 (.seq
 (.region [
 ⟨some 15,none,.load 27 true,[.slot 1],none⟩,⟨some 16,none,.call f_x6,[.slot 15],none⟩,⟨some 17,none,.call f_x5,[.slot 16],none⟩,⟨some 2,none,.id,[.slot 17],none⟩])
 (.ret)))
def F_x9 : IFun := ⟨18,[.slot 2],b_x9,3,0,nofn⟩
theorem c_event_Right : cFun Tryz.prog [1048577] 0 f_x9 = some F_x9 := by kernel_rfl
def L0_x39 : ICode :=
 .seq
 (.seq
 (.region [
 ⟨some 16,none,.id,[.slot 6],none⟩,⟨some 17,none,.id,[.slot 0],none⟩,⟨some 18,none,.lensl,[.slot 17],none⟩,⟨some 19,none,.bin .lss,[.slot 16,.slot 18],none⟩])
 (.cond (.slot 19)
 (.skip)
 (.exit 0)))
 (.seq
 (.block 1
 (.seq
 (.region [
 ⟨some 22,none,.id,[.slot 0],none⟩,⟨some 23,none,.id,[.slot 6],none⟩,⟨some 24,none,.ixaddr 5,[.slot 22,.slot 23],none⟩,⟨some 25,none,.load 5 true,[.slot 24],none⟩,⟨some 7,none,.allocL [.int .i64 0,.int .i64 0,.int .i64 0,.int .i64 0,.str ⟨#[]⟩],[],none⟩,⟨none,none,.store 5,[.slot 7,.slot 25],none⟩])
 (.seq
 (.region [
 ⟨some 26,none,.id,[.slot 1],none⟩,⟨some 27,none,.load 5 true,[.slot 7],none⟩,⟨some 28,none,.callv,[.slot 26,.slot 27],none⟩,⟨some 29,none,.un .not,[.slot 28],none⟩])
 (.cond (.slot 29)
 (.seq
 (.region [
 ⟨some 30,none,.id,[.slot 0],none⟩,⟨some 31,none,.id,[.slot 5],none⟩,⟨some 32,none,.load 5 true,[.slot 7],none⟩,⟨some 33,none,.ixaddr 5,[.slot 30,.slot 31],none⟩,⟨none,none,.store 5,[.slot 33,.slot 32],none⟩])
 (.region [
 ⟨some 34,none,.id,[.slot 5],none⟩,⟨some 35,none,.bin .add,[.slot 34,.val (.int .i64 1)],none⟩,⟨some 5,none,.id,[.slot 35],none⟩]))
 (.skip)))))
 (.region [
 ⟨some 20,none,.id,[.slot 6],none⟩,⟨some 21,none,.bin .add,[.slot 20,.val (.int .i64 1)],none⟩,⟨some 6,none,.id,[.slot 21],none⟩]))
def b_x39 : ICode :=
 .seq
 (.region [
 ⟨some 4,none,.id,[.val .nilsl],none⟩])
 (.seq
 (.region [
 ⟨some 8,none,.id,[.slot 0],none⟩,⟨some 9,none,.id,[.slot 1],none⟩,⟨some 10,none,.call f_x43,[.slot 8,.slot 9],none⟩,⟨some 5,none,.id,[.slot 10],none⟩])
 (.seq
 (.seq
 (.region [
 ⟨some 11,none,.id,[.slot 5],none⟩,⟨some 12,none,.bin .eql,[.slot 11,.val (.int .i64 (-1))],none⟩])
 (.cond (.slot 12)
 (.seq
 (.region [
 ⟨some 13,none,.id,[.slot 0],none⟩,⟨some 4,none,.id,[.slot 13],none⟩])
 (.ret))
 (.skip)))
 (.seq
 (.seq
 (.region [
 ⟨some 14,none,.id,[.slot 5],none⟩,⟨some 15,none,.bin .add,[.slot 14,.val (.int .i64 1)],none⟩,⟨some 6,none,.id,[.slot 15],none⟩])
 (.block 0
 (.loop L0_x39)))
 (.seq
 (.region [
 ⟨some 36,none,.id,[.slot 0],none⟩,⟨some 37,none,.id,[.slot 5],none⟩,⟨some 38,none,.slsl 5 true false false,[.slot 36,.slot 37],none⟩,⟨none,none,.clearR 5 ((.agg [.int .i64 0,.int .i64 0,.int .i64 0,.int .i64 0,.str ⟨#[]⟩])),[.slot 38],none⟩])
 (.seq
 (.region [
 ⟨some 39,none,.id,[.slot 0],none⟩,⟨some 40,none,.id,[.slot 5],none⟩,⟨some 41,none,.slsl 5 false true false,[.slot 39,.slot 40],none⟩,⟨some 4,none,.id,[.slot 41],none⟩])
 (.ret))))))
def F_x39 : IFun := ⟨42,[.slot 4],b_x39,3,0,nofn⟩
theorem c_slices_DeleteFuncstore_Entrystore_Entry : cFun Tryz.prog [1048583] 0 f_x39 = some F_x39 := by kernel_rfl
def b_x37 : ICode :=
 .seq
 (.region [
 ⟨some 2,none,.id,[.val .nilsl],none⟩])
 (.seq
 (.seq
 (.region [
 ⟨some 3,none,.id,[.slot 0],none⟩,⟨some 4,none,.eq1 false .slice,[.slot 3,.val .nilsl],none⟩])
 (.cond (.slot 4)
 (.seq
 (.region [
 ⟨some 2,none,.id,[.val .nilsl],none⟩])
 (.ret))
 (.skip)))
 (.seq
 (.region [
 ⟨some 5,none,.buildSl 5 0 (.agg [.int .i64 0,.int .i64 0,.int .i64 0,.int .i64 0,.str ⟨#[]⟩]) [],[],none⟩,⟨some 6,none,.id,[.slot 0],none⟩,⟨some 7,none,.appendN 56 5 48,[.slot 5,.slot 6],none⟩,⟨some 2,none,.id,[.slot 7],none⟩])
 (.ret)))
def F_x37 : IFun := ⟨8,[.slot 2],b_x37,3,0,nofn⟩
theorem c_slices_Clonestore_Entrystore_Entry : cFun Tryz.prog [16777223] 0 f_x37 = some F_x37 := by kernel_rfl
def b_x67 : ICode :=
 .seq
 (.region [
 ⟨some 2,none,.boxL,[.slot 0],none⟩,⟨some 3,none,.id,[.val (.bool false)],none⟩])
 (.seq
 (.region [
 ⟨some 4,none,.faddr 2,[.slot 1],none⟩,⟨some 5,none,.load 16 true,[.slot 4],none⟩,⟨some 6,none,.faddr 0,[.slot 2],none⟩,⟨some 7,none,.load 2 true,[.slot 6],none⟩,⟨some 8,none,.call f_x86,[.slot 5,.slot 7],none⟩,⟨some 3,none,.id,[.slot 8],none⟩])
 (.ret))
def F_x67 : IFun := ⟨9,[.slot 3],b_x67,3,0,nofn⟩
theorem c_store_Store_Do_1 : cFun Tryz.prog [1048578] 0 f_x67 = some F_x67 := by kernel_rfl
def b_x86 : ICode :=
 .seq
 (.region [
 ⟨some 2,none,.boxL,[.slot 0],none⟩,⟨some 3,none,.boxL,[.slot 1],none⟩,⟨some 4,none,.id,[.val (.bool false)],none⟩])
 (.seq
 (.region [
 ⟨some 5,none,.load 2 true,[.slot 3],(some (.loc 3))⟩,⟨some 6,none,.call f_x85,[.slot 5],none⟩,⟨some 7,none,.id,[.slot 6],none⟩,⟨some 8,(some (7,true)),.faddr 0,[.slot 3],none⟩,⟨some 9,(some (7,true)),.load 1 false,[.slot 8],(some (.loc 3))⟩,⟨some 10,(some (7,true)),.ixaddrA 16 1,[.slot 2,.slot 9],none⟩,⟨some 11,(some (7,true)),.load 1 false,[.slot 10],(some (.loc 2))⟩,⟨some 12,(some (7,true)),.faddr 1,[.slot 3],none⟩,⟨some 13,(some (7,true)),.load 1 false,[.slot 12],(some (.loc 3))⟩,⟨some 14,(some (7,true)),.bin .geq,[.slot 11,.slot 13],none⟩,⟨some 15,none,.pick,[.slot 7,.slot 14,.val (.bool false)],none⟩,⟨some 4,none,.id,[.slot 15],none⟩])
 (.ret))
def F_x86 : IFun := ⟨16,[.slot 4],b_x86,3,0,nofn⟩
theorem c_vector_Knows : cFun Tryz.prog [1048578,1048579] 0 f_x86 = some F_x86 := by kernel_rfl
def L0_x36 : ICode :=
 .seq
 (.seq
 (.region [
 ⟨some 15,none,.id,[.slot 9],none⟩,⟨some 16,none,.id,[.slot 10],none⟩,⟨some 17,none,.bin .lss,[.slot 15,.slot 16],none⟩])
 (.cond (.slot 17)
 (.skip)
 (.exit 0)))
 (.block 1
 (.seq
 (.region [
 ⟨some 18,none,.id,[.slot 9],none⟩,⟨some 19,none,.id,[.slot 10],none⟩,⟨some 20,none,.bin .add,[.slot 18,.slot 19],none⟩,⟨some 21,none,.conv .u64,[.slot 20],none⟩,⟨some 22,none,.bin .shr,[.slot 21,.val (.int .u64 1)],none⟩,⟨some 23,none,.conv .i64,[.slot 22],none⟩,⟨some 11,none,.id,[.slot 23],none⟩])
 (.seq
 (.region [
 ⟨some 24,none,.id,[.slot 2],none⟩,⟨some 25,none,.id,[.slot 0],none⟩,⟨some 26,none,.id,[.slot 11],none⟩,⟨some 27,none,.ixaddr 5,[.slot 25,.slot 26],none⟩,⟨some 28,none,.load 5 true,[.slot 27],(some (.el))⟩,⟨some 29,none,.load 5 true,[.slot 4],(some (.loc 4))⟩,⟨some 30,none,.callv,[.slot 24,.slot 28,.slot 29],none⟩,⟨some 31,none,.bin .lss,[.slot 30,.val (.int .i64 0)],none⟩])
 (.cond (.slot 31)
 (.region [
 ⟨some 32,none,.id,[.slot 11],none⟩,⟨some 33,none,.bin .add,[.slot 32,.val (.int .i64 1)],none⟩,⟨some 9,none,.id,[.slot 33],none⟩])
 (.region [
 ⟨some 34,none,.id,[.slot 11],none⟩,⟨some 10,none,.id,[.slot 34],none⟩])))))
def b_x36 : ICode :=
 .seq
 (.region [
 ⟨some 4,none,.boxL,[.slot 1],none⟩,⟨some 6,none,.id,[.val (.int .i64 0)],none⟩,⟨some 7,none,.id,[.val (.bool false)],none⟩])
 (.seq
 (.region [
 ⟨some 12,none,.id,[.slot 0],none⟩,⟨some 13,none,.lensl,[.slot 12],none⟩,⟨some 8,none,.id,[.slot 13],none⟩])
 (.seq
 (.region [
 ⟨some 14,none,.id,[.slot 8],none⟩,⟨some 9,none,.id,[.val (.int .i64 0)],none⟩,⟨some 10,none,.id,[.slot 14],none⟩])
 (.seq
 (.block 0
 (.loop L0_x36))
 (.seq
 (.region [
 ⟨some 35,none,.id,[.slot 9],none⟩,⟨some 36,none,.id,[.slot 9],none⟩,⟨some 37,none,.id,[.slot 8],none⟩,⟨some 38,none,.bin .lss,[.slot 36,.slot 37],none⟩,⟨some 39,none,.id,[.slot 38],none⟩,⟨some 40,(some (39,true)),.id,[.slot 2],none⟩,⟨some 41,(some (39,true)),.id,[.slot 0],none⟩,⟨some 42,(some (39,true)),.id,[.slot 9],none⟩,⟨some 43,(some (39,true)),.ixaddr 5,[.slot 41,.slot 42],none⟩,⟨some 44,(some (39,true)),.load 5 true,[.slot 43],(some (.el))⟩,⟨some 45,(some (39,true)),.load 5 true,[.slot 4],(some (.loc 4))⟩,⟨some 46,(some (39,true)),.callv,[.slot 40,.slot 44,.slot 45],none⟩,⟨some 47,(some (39,true)),.bin .eql,[.slot 46,.val (.int .i64 0)],none⟩,⟨some 48,none,.pick,[.slot 39,.slot 47,.val (.bool false)],none⟩,⟨some 6,none,.id,[.slot 35],none⟩,⟨some 7,none,.id,[.slot 48],none⟩])
 (.ret)))))
def F_x36 : IFun := ⟨49,[.slot 6,.slot 7],b_x36,3,0,nofn⟩
theorem c_slices_BinarySearchFuncstore_Entrystore_Entrystore_Entry : cFun Tryz.prog [1048580] 0 f_x36 = some F_x36 := by kernel_rfl
def b_x71 : ICode :=
 .seq
 (.region [
 ⟨some 2,none,.boxL,[.slot 0],none⟩,⟨some 3,none,.boxL,[.slot 1],none⟩,⟨some 4,none,.id,[.val (.int .i64 0)],none⟩])
 (.seq
 (.region [
 ⟨some 5,none,.faddr 0,[.slot 2],none⟩,⟨some 6,none,.faddr 0,[.slot 5],none⟩,⟨some 7,none,.load 1 false,[.slot 6],(some (.loc 2))⟩,⟨some 8,none,.faddr 0,[.slot 3],none⟩,⟨some 9,none,.faddr 0,[.slot 8],none⟩,⟨some 10,none,.load 1 false,[.slot 9],(some (.loc 3))⟩,⟨some 11,none,.call f_x0,[.slot 7,.slot 10],none⟩,⟨some 12,none,.faddr 0,[.slot 2],none⟩,⟨some 13,none,.faddr 1,[.slot 12],none⟩,⟨some 14,none,.load 1 false,[.slot 13],(some (.loc 2))⟩,⟨some 15,none,.faddr 0,[.slot 3],none⟩,⟨some 16,none,.faddr 1,[.slot 15],none⟩,⟨some 17,none,.load 1 false,[.slot 16],(some (.loc 3))⟩,⟨some 18,none,.call f_x0,[.slot 14,.slot 17],none⟩,⟨some 19,none,.buildSl 1 2 (.int .i64 0) [0,1],[.slot 11,.slot 18],none⟩,⟨some 20,none,.call f_x2,[.slot 19],none⟩,⟨some 4,none,.id,[.slot 20],none⟩])
 (.ret))
def F_x71 : IFun := ⟨21,[.slot 4],b_x71,3,0,nofn⟩
theorem c_store_byDot : cFun Tryz.prog [1048578,1048579] 0 f_x71 = some F_x71 := by kernel_rfl
def F_x44 : IFun := ⟨8,[],.trap,0,30,insEFn⟩
def b_x70 : ICode :=
 .seq
 (.region [
 ⟨some 4,none,.boxL,[.slot 1],none⟩])
 (.seq
 (.seq
 (.region [
 ⟨some 6,none,.id,[.slot 2],none⟩,⟨some 7,none,.lensl,[.slot 6],none⟩,⟨some 8,none,.bin .eql,[.slot 7,.val (.int .i64 0)],none⟩])
 (.cond (.slot 8)
 (.seq
 (.region [
 ⟨some 9,none,.id,[.slot 0],none⟩,⟨some 10,none,.nilchk,[.slot 9],none⟩,⟨some 11,none,.faddr 0,[.slot 10],none⟩,⟨some 12,none,.load 1 false,[.slot 11],(some (.heap))⟩,⟨some 13,none,.load 5 true,[.slot 4],(some (.loc 4))⟩,⟨none,none,.mdel true [(.int .i64),.str,.str,.str,.str],[.slot 12,.slot 13],none⟩])
 (.ret))
 (.skip)))
 (.region [
 ⟨some 14,none,.id,[.slot 0],none⟩,⟨some 15,none,.nilchk,[.slot 14],none⟩,⟨some 16,none,.faddr 0,[.slot 15],none⟩,⟨some 17,none,.load 1 false,[.slot 16],(some (.heap))⟩,⟨some 18,none,.load 5 true,[.slot 4],(some (.loc 4))⟩,⟨some 19,none,.id,[.slot 2],none⟩,⟨none,none,.mset true [(.int .i64),.str,.str,.str,.str],[.slot 17,.slot 18,.slot 19],none⟩]))
def F_x70 : IFun := ⟨20,[],b_x70,3,0,nofn⟩
theorem c_store_Store_lay : cFun Tryz.prog [1048580] 0 f_x70 = some F_x70 := by kernel_rfl
def F_x45 : IFun := ⟨8,[],.trap,0,30,sortIFn⟩
def b_x65 : ICode :=
 .seq
 (.region [
 ⟨some 2,none,.boxL,[.slot 0],none⟩,⟨some 3,none,.boxL,[.slot 1],none⟩,⟨some 4,none,.id,[.val (.int .i64 0)],none⟩])
 (.seq
 (.region [
 ⟨some 5,none,.faddr 0,[.slot 2],none⟩,⟨some 6,none,.load 5 true,[.slot 5],none⟩,⟨some 7,none,.faddr 0,[.slot 3],none⟩,⟨some 8,none,.load 5 true,[.slot 7],none⟩,⟨some 9,none,.call f_x63,[.slot 6,.slot 8],none⟩,⟨some 4,none,.id,[.slot 9],none⟩])
 (.ret))
def F_x65 : IFun := ⟨10,[.slot 4],b_x65,3,0,nofn⟩
theorem c_store_Store_All_1 : cFun Tryz.prog [1048578,1048579] 0 f_x65 = some F_x65 := by kernel_rfl
def b_x76 : ICode :=
 .seq
 (.region [
 ⟨some 1,none,.boxL,[.slot 0],none⟩,⟨some 2,none,.id,[.val (.bool false)],none⟩])
 (.seq
 (.seq
 (.region [
 ⟨some 3,none,.faddr 0,[.slot 1],none⟩,⟨some 4,none,.load 1 false,[.slot 3],none⟩])
 (.block 0
 (.seq
 (.region [
 ⟨some 6,none,.bin .eql,[.slot 4,.val (.int .i64 1)],none⟩,⟨some 5,none,.id,[.slot 6],none⟩])
 (.cond (.slot 5)
 (.seq
 (.region [
 ⟨some 7,none,.faddr 1,[.slot 1],none⟩,⟨some 8,none,.load 1 false,[.slot 7],none⟩,⟨some 9,none,.buildSl 1 1 (.str ⟨#[]⟩) [0],[.slot 8],none⟩,⟨some 10,none,.call f_x83,[.slot 9],none⟩,⟨some 11,none,.id,[.slot 10],none⟩,⟨some 12,(some (11,true)),.faddr 2,[.slot 1],none⟩,⟨some 13,(some (11,true)),.load 1 false,[.slot 12],none⟩,⟨some 14,(some (11,true)),.faddr 3,[.slot 1],none⟩,⟨some 15,(some (11,true)),.load 1 false,[.slot 14],none⟩,⟨some 16,(some (11,true)),.faddr 4,[.slot 1],none⟩,⟨some 17,(some (11,true)),.load 1 false,[.slot 16],none⟩,⟨some 18,(some (11,true)),.buildSl 1 3 (.str ⟨#[]⟩) [0,1,2],[.slot 13,.slot 15,.slot 17],none⟩,⟨some 19,(some (11,true)),.call f_x80,[.slot 18],none⟩,⟨some 20,none,.pick,[.slot 11,.slot 19,.val (.bool false)],none⟩,⟨some 2,none,.id,[.slot 20],none⟩])
 (.ret))
 (.seq
 (.seq
 (.region [
 ⟨some 22,none,.bin .eql,[.slot 4,.val (.int .i64 2)],none⟩,⟨some 21,none,.id,[.slot 22],none⟩])
 (.cond (.slot 21)
 (.skip)
 (.region [
 ⟨some 23,none,.bin .eql,[.slot 4,.val (.int .i64 4)],none⟩,⟨some 21,none,.id,[.slot 23],none⟩])))
 (.cond (.slot 21)
 (.seq
 (.region [
 ⟨some 24,none,.faddr 1,[.slot 1],none⟩,⟨some 25,none,.load 1 false,[.slot 24],none⟩,⟨some 26,none,.faddr 4,[.slot 1],none⟩,⟨some 27,none,.load 1 false,[.slot 26],none⟩,⟨some 28,none,.buildSl 1 2 (.str ⟨#[]⟩) [0,1],[.slot 25,.slot 27],none⟩,⟨some 29,none,.call f_x83,[.slot 28],none⟩,⟨some 30,none,.id,[.slot 29],none⟩,⟨some 31,(some (30,true)),.faddr 2,[.slot 1],none⟩,⟨some 32,(some (30,true)),.load 1 false,[.slot 31],none⟩,⟨some 33,(some (30,true)),.faddr 3,[.slot 1],none⟩,⟨some 34,(some (30,true)),.load 1 false,[.slot 33],none⟩,⟨some 35,(some (30,true)),.buildSl 1 2 (.str ⟨#[]⟩) [0,1],[.slot 32,.slot 34],none⟩,⟨some 36,(some (30,true)),.call f_x80,[.slot 35],none⟩,⟨some 37,none,.pick,[.slot 30,.slot 36,.val (.bool false)],none⟩,⟨some 2,none,.id,[.slot 37],none⟩])
 (.ret))
 (.seq
 (.region [
 ⟨some 39,none,.bin .eql,[.slot 4,.val (.int .i64 3)],none⟩,⟨some 38,none,.id,[.slot 39],none⟩])
 (.cond (.slot 38)
 (.seq
 (.region [
 ⟨some 40,none,.faddr 1,[.slot 1],none⟩,⟨some 41,none,.load 1 false,[.slot 40],none⟩,⟨some 42,none,.faddr 2,[.slot 1],none⟩,⟨some 43,none,.load 1 false,[.slot 42],none⟩,⟨some 44,none,.faddr 3,[.slot 1],none⟩,⟨some 45,none,.load 1 false,[.slot 44],none⟩,⟨some 46,none,.buildSl 1 3 (.str ⟨#[]⟩) [0,1,2],[.slot 41,.slot 43,.slot 45],none⟩,⟨some 47,none,.call f_x83,[.slot 46],none⟩,⟨some 48,none,.id,[.slot 47],none⟩,⟨some 49,(some (48,true)),.faddr 4,[.slot 1],none⟩,⟨some 50,(some (48,true)),.load 1 false,[.slot 49],none⟩,⟨some 51,(some (48,true)),.buildSl 1 1 (.str ⟨#[]⟩) [0],[.slot 50],none⟩,⟨some 52,(some (48,true)),.call f_x80,[.slot 51],none⟩,⟨some 53,none,.pick,[.slot 48,.slot 52,.val (.bool false)],none⟩,⟨some 2,none,.id,[.slot 53],none⟩])
 (.ret))
 (.seq
 (.region [
 ⟨some 55,none,.bin .eql,[.slot 4,.val (.int .i64 5)],none⟩,⟨some 54,none,.id,[.slot 55],none⟩])
 (.cond (.slot 54)
 (.seq
 (.region [
 ⟨some 56,none,.faddr 1,[.slot 1],none⟩,⟨some 57,none,.load 1 false,[.slot 56],none⟩,⟨some 58,none,.faddr 2,[.slot 1],none⟩,⟨some 59,none,.load 1 false,[.slot 58],none⟩,⟨some 60,none,.faddr 3,[.slot 1],none⟩,⟨some 61,none,.load 1 false,[.slot 60],none⟩,⟨some 62,none,.faddr 4,[.slot 1],none⟩,⟨some 63,none,.load 1 false,[.slot 62],none⟩,⟨some 64,none,.buildSl 1 4 (.str ⟨#[]⟩) [0,1,2,3],[.slot 57,.slot 59,.slot 61,.slot 63],none⟩,⟨some 65,none,.call f_x83,[.slot 64],none⟩,⟨some 2,none,.id,[.slot 65],none⟩])
 (.ret))
 (.skip)))))))))))
 (.seq
 (.region [
 ⟨some 2,none,.id,[.val (.bool false)],none⟩])
 (.ret)))
def F_x76 : IFun := ⟨66,[.slot 2],b_x76,3,0,nofn⟩
theorem c_value_Elem : cFun Tryz.prog [1048577] 0 f_x76 = some F_x76 := by kernel_rfl
def b_x72 : ICode :=
 .seq
 (.region [
 ⟨some 2,none,.boxL,[.slot 0],none⟩,⟨some 3,none,.boxL,[.slot 1],none⟩,⟨some 4,none,.id,[.val (.bool false)],none⟩])
 (.seq
 (.region [
 ⟨some 5,none,.id,[.val (.int .i64 1)],none⟩])
 (.seq
 (.seq
 (.region [
 ⟨some 6,none,.faddr 0,[.slot 2],none⟩,⟨some 7,none,.load 1 false,[.slot 6],none⟩,⟨some 8,none,.bin .eql,[.slot 7,.val (.int .i64 4)],none⟩,⟨some 9,none,.id,[.slot 8],none⟩,⟨some 10,(some (9,false)),.faddr 0,[.slot 2],none⟩,⟨some 11,(some (9,false)),.load 1 false,[.slot 10],none⟩,⟨some 12,(some (9,false)),.bin .eql,[.slot 11,.val (.int .i64 5)],none⟩,⟨some 13,none,.pick,[.slot 9,.val (.bool true),.slot 12],none⟩])
 (.cond (.slot 13)
 (.region [
 ⟨some 5,none,.id,[.val (.int .i64 3)],none⟩])
 (.skip)))
 (.seq
 (.region [
 ⟨some 14,none,.faddr 0,[.slot 3],none⟩,⟨some 15,none,.load 2 true,[.slot 14],none⟩,⟨some 16,none,.call f_x85,[.slot 15],none⟩,⟨some 17,none,.id,[.slot 16],none⟩,⟨some 18,(some (17,true)),.id,[.slot 5],none⟩,⟨some 19,(some (17,true)),.load 5 true,[.slot 2],none⟩,⟨some 20,(some (17,true)),.faddr 2,[.slot 3],none⟩,⟨some 21,(some (17,true)),.load 3 true,[.slot 20],none⟩,⟨some 22,(some (17,true)),.build [.int .i64 0,.int .i64 0,.str ⟨#[]⟩,.str ⟨#[]⟩,.str ⟨#[]⟩,.str ⟨#[]⟩,.int .i64 0,.int .i64 0,.str ⟨#[]⟩] [(0,1),(1,5),(6,3)],[.slot 18,.slot 19,.slot 21],none⟩,⟨some 23,(some (17,true)),.call f_x5,[.slot 22],none⟩,⟨some 24,(some (17,true)),.bin .eql,[.slot 23,.val (.int .i64 0)],none⟩,⟨some 25,none,.pick,[.slot 17,.slot 24,.val (.bool false)],none⟩,⟨some 4,none,.id,[.slot 25],none⟩])
 (.ret))))
def F_x72 : IFun := ⟨26,[.slot 4],b_x72,3,0,nofn⟩
theorem c_store_entry : cFun Tryz.prog [1048578,1048579] 0 f_x72 = some F_x72 := by kernel_rfl
def L0_x49 : ICode :=
 .seq
 (.region [
 ⟨some 27,none,.bin .lss,[.slot 26,.slot 25],none⟩])
 (.seq
 (.cond (.slot 27)
 (.skip)
 (.exit 0))
 (.seq
 (.block 1
 (.seq
 (.region [
 ⟨some 28,none,.id,[.slot 26],none⟩,⟨some 29,none,.ixaddr 6,[.slot 24,.slot 26],none⟩,⟨some 30,none,.load 6 true,[.slot 29],none⟩,⟨some 4,none,.allocL [.int .i64 0,.str ⟨#[]⟩,.str ⟨#[]⟩,.str ⟨#[]⟩,.str ⟨#[]⟩,.nilsl],[],none⟩,⟨some 3,none,.id,[.slot 28],none⟩,⟨none,none,.store 6,[.slot 4,.slot 30],none⟩])
 (.seq
 (.region [
 ⟨some 31,none,.faddr 0,[.slot 1],none⟩,⟨some 32,none,.load 16 true,[.slot 31],(some (.loc 1))⟩,⟨some 33,none,.load 6 true,[.slot 4],(some (.loc 4))⟩,⟨some 34,none,.callP f_x53,[.slot 32,.slot 33],none⟩,⟨some 35,none,.un .not,[.slot 34],none⟩,⟨some 36,none,.id,[.slot 35],none⟩,⟨some 37,(some (36,false)),.id,[.slot 3],none⟩,⟨some 38,(some (36,false)),.bin .gtr,[.slot 37,.val (.int .i64 0)],none⟩,⟨some 39,(some (36,false)),.id,[.slot 38],none⟩,⟨some 40,(some (39,true)),.faddr 16,[.slot 1],none⟩,⟨some 41,(some (39,true)),.load 1 false,[.slot 40],(some (.loc 1))⟩,⟨some 42,(some (39,true)),.id,[.slot 3],none⟩,⟨some 43,(some (39,true)),.bin .sub,[.slot 42,.val (.int .i64 1)],none⟩,⟨some 44,(some (39,true)),.ixaddr 6,[.slot 41,.slot 43],none⟩,⟨some 45,(some (39,true)),.faddr 0,[.slot 44],none⟩,⟨some 46,(some (39,true)),.load 5 true,[.slot 45],(some (.el))⟩,⟨some 47,(some (39,true)),.faddr 0,[.slot 4],none⟩,⟨some 48,(some (39,true)),.load 5 true,[.slot 47],(some (.loc 4))⟩,⟨some 49,(some (39,true)),.call f_x63,[.slot 46,.slot 48],none⟩,⟨some 50,(some (39,true)),.bin .geq,[.slot 49,.val (.int .i64 0)],none⟩,⟨some 51,(some (36,false)),.pick,[.slot 39,.slot 50,.val (.bool false)],none⟩,⟨some 52,none,.pick,[.slot 36,.val (.bool true),.slot 51],none⟩])
 (.cond (.slot 52)
 (.seq
 (.region [
 ⟨some 2,none,.id,[.val (.int .i64 1)],none⟩])
 (.ret))
 (.skip)))))
 (.region [
 ⟨some 53,none,.bin .add,[.slot 26,.val (.int .i64 1)],none⟩,⟨some 26,none,.id,[.slot 53],none⟩])))
def L1_x49 : ICode :=
 .seq
 (.region [
 ⟨some 58,none,.bin .lss,[.slot 57,.slot 56],none⟩])
 (.seq
 (.cond (.slot 58)
 (.skip)
 (.exit 2))
 (.seq
 (.block 3
 (.seq
 (.region [
 ⟨some 59,none,.ixaddr 27,[.slot 55,.slot 57],none⟩,⟨some 60,none,.load 27 true,[.slot 59],none⟩,⟨some 6,none,.allocL [.int .i64 0,.int .i64 0,.int .i64 0,.int .i64 0,.int .i64 0,.int .i64 0,.int .i64 0,.int .i64 0,.int .i64 0,.int .i64 0,.int .i64 0,.int .i64 0,.int .i64 0,.int .i64 0,.int .i64 0,.int .i64 0,.int .i64 0,.int .i64 0,.int .i64 0,.int .i64 0,.str ⟨#[]⟩,.str ⟨#[]⟩,.str ⟨#[]⟩,.str ⟨#[]⟩,.int .i64 0,.int .i64 0,.str ⟨#[]⟩],[],none⟩,⟨none,none,.store 27,[.slot 6,.slot 60],none⟩])
 (.seq
 (.region [
 ⟨some 61,none,.load 27 true,[.slot 6],none⟩,⟨some 62,none,.call f_x9,[.slot 61],none⟩,⟨some 63,none,.bin .neq,[.slot 62,.val (.int .i64 0)],none⟩,⟨some 64,none,.id,[.slot 63],none⟩,⟨some 65,(some (64,false)),.faddr 0,[.slot 1],none⟩,⟨some 66,(some (64,false)),.load 16 true,[.slot 65],none⟩,⟨some 67,(some (64,false)),.faddr 0,[.slot 6],none⟩,⟨some 68,(some (64,false)),.load 2 true,[.slot 67],none⟩,⟨some 69,(some (64,false)),.call f_x86,[.slot 66,.slot 68],none⟩,⟨some 70,(some (64,false)),.un .not,[.slot 69],none⟩,⟨some 71,none,.pick,[.slot 64,.val (.bool true),.slot 70],none⟩])
 (.cond (.slot 71)
 (.seq
 (.region [
 ⟨some 2,none,.id,[.val (.int .i64 1)],none⟩])
 (.ret))
 (.skip)))))
 (.region [
 ⟨some 72,none,.bin .add,[.slot 57,.val (.int .i64 1)],none⟩,⟨some 57,none,.id,[.slot 72],none⟩])))
def b_x49 : ICode :=
 .seq
 (.region [
 ⟨some 1,none,.boxL,[.slot 0],none⟩,⟨some 2,none,.id,[.val (.int .i64 0)],none⟩])
 (.seq
 (.seq
 (.region [
 ⟨some 7,none,.faddr 0,[.slot 1],none⟩,⟨some 8,none,.load 16 true,[.slot 7],none⟩,⟨some 9,none,.call f_x88,[.slot 8],none⟩,⟨some 10,none,.un .not,[.slot 9],none⟩,⟨some 11,none,.id,[.slot 10],none⟩,⟨some 12,(some (11,false)),.faddr 16,[.slot 1],none⟩,⟨some 13,(some (11,false)),.load 1 false,[.slot 12],none⟩,⟨some 14,(some (11,false)),.lensl,[.slot 13],none⟩,⟨some 15,(some (11,false)),.bin .gtr,[.slot 14,.val (.int .i64 100000)],none⟩,⟨some 16,none,.pick,[.slot 11,.val (.bool true),.slot 15],none⟩,⟨some 17,none,.id,[.slot 16],none⟩,⟨some 18,(some (17,false)),.faddr 17,[.slot 1],none⟩,⟨some 19,(some (17,false)),.load 1 false,[.slot 18],none⟩,⟨some 20,(some (17,false)),.lensl,[.slot 19],none⟩,⟨some 21,(some (17,false)),.bin .gtr,[.slot 20,.val (.int .i64 100000)],none⟩,⟨some 22,none,.pick,[.slot 17,.val (.bool true),.slot 21],none⟩])
 (.cond (.slot 22)
 (.seq
 (.region [
 ⟨some 2,none,.id,[.val (.int .i64 1)],none⟩])
 (.ret))
 (.skip)))
 (.seq
 (.seq
 (.region [
 ⟨some 23,none,.faddr 16,[.slot 1],none⟩,⟨some 24,none,.load 1 false,[.slot 23],none⟩,⟨some 25,none,.lensl,[.slot 24],none⟩,⟨some 26,none,.id,[.val (.int .i64 0)],none⟩])
 (.block 0
 (.loop L0_x49)))
 (.seq
 (.seq
 (.region [
 ⟨some 54,none,.faddr 17,[.slot 1],none⟩,⟨some 55,none,.load 1 false,[.slot 54],none⟩,⟨some 56,none,.lensl,[.slot 55],none⟩,⟨some 57,none,.id,[.val (.int .i64 0)],none⟩])
 (.block 2
 (.loop L1_x49)))
 (.seq
 (.region [
 ⟨some 2,none,.id,[.val (.int .i64 0)],none⟩])
 (.ret)))))
def F_x49 : IFun := ⟨73,[.slot 2],b_x49,3,0,nofn⟩
theorem c_snap_Right : cFun Tryz.prog [1048577,1048580,1048582,2097237] 0 f_x49 = some F_x49 := by kernel_rfl
def L0_x26 : ICode :=
 .seq
 (.seq
 (.region [
 ⟨some 12,none,.id,[.slot 1],none⟩,⟨some 13,none,.bin .gtr,[.slot 12,.val (.int .i64 127)],none⟩])
 (.cond (.slot 13)
 (.skip)
 (.exit 0)))
 (.seq
 (.block 1
 (.region [
 ⟨some 16,none,.id,[.slot 0],none⟩,⟨some 17,none,.id,[.slot 1],none⟩,⟨some 18,none,.bin .and,[.slot 17,.val (.int .i64 127)],none⟩,⟨some 19,none,.bin .or,[.slot 18,.val (.int .i64 128)],none⟩,⟨some 20,none,.conv .u8,[.slot 19],none⟩,⟨some 21,none,.buildSl 1 1 (.int .u8 0) [0],[.slot 20],none⟩,⟨some 22,none,.append 5 1 1,[.slot 16,.slot 21],none⟩,⟨some 0,none,.id,[.slot 22],none⟩]))
 (.region [
 ⟨some 14,none,.id,[.slot 1],none⟩,⟨some 15,none,.bin .shr,[.slot 14,.val (.int .u64 7)],none⟩,⟨some 1,none,.id,[.slot 15],none⟩]))
def b_x26 : ICode :=
 .seq
 (.region [
 ⟨some 4,none,.id,[.val .nilsl],none⟩])
 (.seq
 (.seq
 (.region [
 ⟨some 5,none,.id,[.slot 1],none⟩,⟨some 6,none,.bin .lss,[.slot 5,.val (.int .i64 0)],none⟩,⟨some 7,none,.id,[.slot 6],none⟩,⟨some 8,(some (7,false)),.id,[.slot 1],none⟩,⟨some 9,(some (7,false)),.bin .gtr,[.slot 8,.val (.int .i64 4611686018427387903)],none⟩,⟨some 10,none,.pick,[.slot 7,.val (.bool true),.slot 9],none⟩])
 (.cond (.slot 10)
 (.seq
 (.region [
 ⟨some 11,none,.id,[.slot 0],none⟩,⟨some 4,none,.id,[.slot 11],none⟩])
 (.ret))
 (.skip)))
 (.seq
 (.block 0
 (.loop L0_x26))
 (.seq
 (.region [
 ⟨some 23,none,.id,[.slot 0],none⟩,⟨some 24,none,.id,[.slot 1],none⟩,⟨some 25,none,.conv .u8,[.slot 24],none⟩,⟨some 26,none,.buildSl 1 1 (.int .u8 0) [0],[.slot 25],none⟩,⟨some 27,none,.append 5 1 1,[.slot 23,.slot 26],none⟩,⟨some 4,none,.id,[.slot 27],none⟩])
 (.ret))))
def F_x26 : IFun := ⟨28,[.slot 4],b_x26,3,0,nofn⟩
theorem c_num_Put : cFun Tryz.prog [] 0 f_x26 = some F_x26 := by kernel_rfl
def L0_x55 : ICode :=
 .seq
 (.region [
 ⟨some 29,none,.bin .lss,[.slot 28,.slot 27],none⟩])
 (.seq
 (.cond (.slot 29)
 (.skip)
 (.exit 0))
 (.seq
 (.block 1
 (.seq
 (.region [
 ⟨some 30,none,.ixaddr 1,[.slot 26,.slot 28],none⟩,⟨some 31,none,.load 1 false,[.slot 30],none⟩,⟨some 6,none,.id,[.slot 31],none⟩])
 (.region [
 ⟨some 32,none,.id,[.slot 0],none⟩,⟨some 33,none,.id,[.slot 6],none⟩,⟨some 34,none,.call f_x34,[.slot 32,.slot 33],none⟩,⟨some 0,none,.id,[.slot 34],none⟩])))
 (.region [
 ⟨some 35,none,.bin .add,[.slot 28,.val (.int .i64 1)],none⟩,⟨some 28,none,.id,[.slot 35],none⟩])))
def L1_x55 : ICode :=
 .seq
 (.region [
 ⟨some 45,none,.bin .lss,[.slot 44,.slot 43],none⟩])
 (.seq
 (.cond (.slot 45)
 (.skip)
 (.exit 2))
 (.seq
 (.block 3
 (.seq
 (.region [
 ⟨some 46,none,.ixaddr 5,[.slot 42,.slot 44],none⟩,⟨some 47,none,.load 5 true,[.slot 46],none⟩,⟨some 8,none,.allocL [.int .i64 0,.int .i64 0,.int .i64 0,.int .i64 0,.str ⟨#[]⟩],[],none⟩,⟨none,none,.store 5,[.slot 8,.slot 47],none⟩])
 (.region [
 ⟨some 48,none,.id,[.slot 0],none⟩,⟨some 49,none,.faddr 0,[.slot 8],none⟩,⟨some 50,none,.faddr 0,[.slot 49],none⟩,⟨some 51,none,.load 1 false,[.slot 50],(some (.loc 8))⟩,⟨some 52,none,.call f_x26,[.slot 48,.slot 51],none⟩,⟨some 53,none,.faddr 0,[.slot 8],none⟩,⟨some 54,none,.faddr 1,[.slot 53],none⟩,⟨some 55,none,.load 1 false,[.slot 54],(some (.loc 8))⟩,⟨some 56,none,.call f_x26,[.slot 52,.slot 55],none⟩,⟨some 57,none,.faddr 2,[.slot 8],none⟩,⟨some 58,none,.load 3 true,[.slot 57],(some (.loc 8))⟩,⟨some 59,none,.call f_x56,[.slot 56,.slot 58],none⟩,⟨some 0,none,.id,[.slot 59],none⟩])))
 (.region [
 ⟨some 60,none,.bin .add,[.slot 44,.val (.int .i64 1)],none⟩,⟨some 44,none,.id,[.slot 60],none⟩])))
def b_x55 : ICode :=
 .seq
 (.region [
 ⟨some 3,none,.boxL,[.slot 1],none⟩,⟨some 4,none,.id,[.val .nilsl],none⟩])
 (.seq
 (.region [
 ⟨some 9,none,.id,[.slot 0],none⟩,⟨some 10,none,.faddr 0,[.slot 3],none⟩,⟨some 11,none,.faddr 0,[.slot 10],none⟩,⟨some 12,none,.load 1 false,[.slot 11],none⟩,⟨some 13,none,.call f_x26,[.slot 9,.slot 12],none⟩,⟨some 0,none,.id,[.slot 13],none⟩])
 (.seq
 (.seq
 (.region [
 ⟨some 14,none,.faddr 0,[.slot 3],none⟩,⟨some 15,none,.faddr 1,[.slot 14],none⟩,⟨some 16,none,.load 1 false,[.slot 15],none⟩,⟨some 17,none,.faddr 0,[.slot 3],none⟩,⟨some 18,none,.faddr 2,[.slot 17],none⟩,⟨some 19,none,.load 1 false,[.slot 18],none⟩,⟨some 20,none,.faddr 0,[.slot 3],none⟩,⟨some 21,none,.faddr 3,[.slot 20],none⟩,⟨some 22,none,.load 1 false,[.slot 21],none⟩,⟨some 23,none,.faddr 0,[.slot 3],none⟩,⟨some 24,none,.faddr 4,[.slot 23],none⟩,⟨some 25,none,.load 1 false,[.slot 24],none⟩,⟨some 26,none,.buildSl 1 4 (.str ⟨#[]⟩) [0,1,2,3],[.slot 16,.slot 19,.slot 22,.slot 25],none⟩,⟨some 27,none,.lensl,[.slot 26],none⟩,⟨some 28,none,.id,[.val (.int .i64 0)],none⟩])
 (.block 0
 (.loop L0_x55)))
 (.seq
 (.region [
 ⟨some 36,none,.id,[.slot 0],none⟩,⟨some 37,none,.faddr 5,[.slot 3],none⟩,⟨some 38,none,.load 1 false,[.slot 37],none⟩,⟨some 39,none,.lensl,[.slot 38],none⟩,⟨some 40,none,.call f_x26,[.slot 36,.slot 39],none⟩,⟨some 0,none,.id,[.slot 40],none⟩])
 (.seq
 (.seq
 (.region [
 ⟨some 41,none,.faddr 5,[.slot 3],none⟩,⟨some 42,none,.load 1 false,[.slot 41],none⟩,⟨some 43,none,.lensl,[.slot 42],none⟩,⟨some 44,none,.id,[.val (.int .i64 0)],none⟩])
 (.block 2
 (.loop L1_x55)))
 (.seq
 (.region [
 ⟨some 61,none,.id,[.slot 0],none⟩,⟨some 4,none,.id,[.slot 61],none⟩])
 (.ret))))))
def F_x55 : IFun := ⟨62,[.slot 4],b_x55,3,0,nofn⟩
theorem c_snap_putItem : cFun Tryz.prog [1048579,1048584] 0 f_x55 = some F_x55 := by kernel_rfl
def L0_x7 : ICode :=
 .seq
 (.region [
 ⟨some 21,none,.bin .lss,[.slot 20,.slot 19],none⟩])
 (.seq
 (.cond (.slot 21)
 (.skip)
 (.exit 0))
 (.seq
 (.block 1
 (.seq
 (.region [
 ⟨some 22,none,.ixaddr 1,[.slot 18,.slot 20],none⟩,⟨some 23,none,.load 1 false,[.slot 22],none⟩,⟨some 6,none,.id,[.slot 23],none⟩])
 (.region [
 ⟨some 24,none,.id,[.slot 0],none⟩,⟨some 25,none,.id,[.slot 6],none⟩,⟨some 26,none,.call f_x26,[.slot 24,.slot 25],none⟩,⟨some 0,none,.id,[.slot 26],none⟩])))
 (.region [
 ⟨some 27,none,.bin .add,[.slot 20,.val (.int .i64 1)],none⟩,⟨some 20,none,.id,[.slot 27],none⟩])))
def L1_x7 : ICode :=
 .seq
 (.region [
 ⟨some 51,none,.bin .lss,[.slot 50,.slot 49],none⟩])
 (.seq
 (.cond (.slot 51)
 (.skip)
 (.exit 2))
 (.seq
 (.block 3
 (.seq
 (.region [
 ⟨some 52,none,.ixaddr 1,[.slot 48,.slot 50],none⟩,⟨some 53,none,.load 1 false,[.slot 52],none⟩,⟨some 8,none,.id,[.slot 53],none⟩])
 (.region [
 ⟨some 54,none,.id,[.slot 0],none⟩,⟨some 55,none,.id,[.slot 8],none⟩,⟨some 56,none,.call f_x34,[.slot 54,.slot 55],none⟩,⟨some 0,none,.id,[.slot 56],none⟩])))
 (.region [
 ⟨some 57,none,.bin .add,[.slot 50,.val (.int .i64 1)],none⟩,⟨some 50,none,.id,[.slot 57],none⟩])))
def b_x7 : ICode :=
 .seq
 (.region [
 ⟨some 3,none,.boxI,[.slot 1],none⟩,⟨some 4,none,.id,[.val .nilsl],none⟩])
 (.seq
 (.seq
 (.region [
 ⟨some 9,none,.faddr 0,[.slot 3],none⟩,⟨some 10,none,.faddr 0,[.slot 9],none⟩,⟨some 11,none,.load 1 false,[.slot 10],(some (.el))⟩,⟨some 12,none,.faddr 0,[.slot 3],none⟩,⟨some 13,none,.faddr 1,[.slot 12],none⟩,⟨some 14,none,.load 1 false,[.slot 13],(some (.el))⟩,⟨some 15,none,.buildSl 1 2 (.int .i64 0) [0,1],[.slot 11,.slot 14],none⟩,⟨some 16,none,.faddr 2,[.slot 3],none⟩,⟨some 17,none,.slarr 16 1,[.slot 16],none⟩,⟨some 18,none,.append 3 1 8,[.slot 15,.slot 17],none⟩,⟨some 19,none,.lensl,[.slot 18],none⟩,⟨some 20,none,.id,[.val (.int .i64 0)],none⟩])
 (.block 0
 (.loop L0_x7)))
 (.seq
 (.region [
 ⟨some 28,none,.id,[.slot 0],none⟩,⟨some 29,none,.faddr 18,[.slot 3],none⟩,⟨some 30,none,.load 1 false,[.slot 29],(some (.el))⟩,⟨some 31,none,.call f_x26,[.slot 28,.slot 30],none⟩,⟨some 32,none,.faddr 19,[.slot 3],none⟩,⟨some 33,none,.faddr 0,[.slot 32],none⟩,⟨some 34,none,.load 1 false,[.slot 33],(some (.el))⟩,⟨some 35,none,.call f_x26,[.slot 31,.slot 34],none⟩,⟨some 0,none,.id,[.slot 35],none⟩])
 (.seq
 (.seq
 (.region [
 ⟨some 36,none,.faddr 19,[.slot 3],none⟩,⟨some 37,none,.faddr 1,[.slot 36],none⟩,⟨some 38,none,.load 1 false,[.slot 37],none⟩,⟨some 39,none,.faddr 19,[.slot 3],none⟩,⟨some 40,none,.faddr 2,[.slot 39],none⟩,⟨some 41,none,.load 1 false,[.slot 40],none⟩,⟨some 42,none,.faddr 19,[.slot 3],none⟩,⟨some 43,none,.faddr 3,[.slot 42],none⟩,⟨some 44,none,.load 1 false,[.slot 43],none⟩,⟨some 45,none,.faddr 19,[.slot 3],none⟩,⟨some 46,none,.faddr 4,[.slot 45],none⟩,⟨some 47,none,.load 1 false,[.slot 46],none⟩,⟨some 48,none,.buildSl 1 4 (.str ⟨#[]⟩) [0,1,2,3],[.slot 38,.slot 41,.slot 44,.slot 47],none⟩,⟨some 49,none,.lensl,[.slot 48],none⟩,⟨some 50,none,.id,[.val (.int .i64 0)],none⟩])
 (.block 2
 (.loop L1_x7)))
 (.seq
 (.region [
 ⟨some 58,none,.id,[.slot 0],none⟩,⟨some 59,none,.faddr 24,[.slot 3],none⟩,⟨some 60,none,.faddr 0,[.slot 59],none⟩,⟨some 61,none,.load 1 false,[.slot 60],(some (.el))⟩,⟨some 62,none,.call f_x26,[.slot 58,.slot 61],none⟩,⟨some 63,none,.faddr 24,[.slot 3],none⟩,⟨some 64,none,.faddr 1,[.slot 63],none⟩,⟨some 65,none,.load 1 false,[.slot 64],(some (.el))⟩,⟨some 66,none,.call f_x33,[.slot 62,.slot 65],none⟩,⟨some 67,none,.faddr 24,[.slot 3],none⟩,⟨some 68,none,.faddr 2,[.slot 67],none⟩,⟨some 69,none,.load 1 false,[.slot 68],(some (.el))⟩,⟨some 70,none,.call f_x34,[.slot 66,.slot 69],none⟩,⟨some 4,none,.id,[.slot 70],none⟩])
 (.ret)))))
def F_x7 : IFun := ⟨71,[.slot 4],b_x7,3,0,nofn⟩
theorem c_event_Put : cFun Tryz.prog [3,4194307] 0 f_x7 = some F_x7 := by kernel_rfl
def b_x27 : ICode :=
 .seq
 (.region [
 ⟨some 2,none,.id,[.val .nilptr],none⟩])
 (.seq
 (.region [
 ⟨some 3,none,.id,[.slot 0],none⟩,⟨some 4,none,.build [.nilsl,(.bool false)] [(0,1)],[.slot 3],none⟩,⟨some 5,none,.boxH 133,[.slot 4],none⟩,⟨some 2,none,.id,[.slot 5],none⟩])
 (.ret))
def F_x27 : IFun := ⟨6,[.slot 2],b_x27,3,0,nofn⟩
theorem c_num_Read : cFun Tryz.prog [5] 0 f_x27 = some F_x27 := by kernel_rfl
def b_x30 : ICode :=
 .seq
 (.region [
 ⟨some 4,none,.id,[.val (.int .i64 0)],none⟩])
 (.seq
 (.seq
 (.region [
 ⟨some 7,none,.id,[.slot 0],none⟩,⟨some 8,none,.call f_x29,[.slot 7],none⟩])
 (.cond (.slot 8)
 (.seq
 (.region [
 ⟨some 4,none,.id,[.val (.int .i64 0)],none⟩])
 (.ret))
 (.skip)))
 (.seq
 (.region [
 ⟨some 10,none,.id,[.slot 0],none⟩,⟨some 11,none,.nilchk,[.slot 10],none⟩,⟨some 12,none,.faddr 0,[.slot 11],none⟩,⟨some 13,none,.load 1 false,[.slot 12],none⟩,⟨some 14,none,.call f_x35,[.slot 13],none⟩,⟨some 9,none,.id,[.slot 14],none⟩,⟨some 15,none,.extract 0,[.slot 9],none⟩,⟨some 16,none,.extract 1,[.slot 9],none⟩,⟨some 5,none,.id,[.slot 15],none⟩,⟨some 6,none,.id,[.slot 16],none⟩])
 (.seq
 (.seq
 (.region [
 ⟨some 17,none,.id,[.slot 6],none⟩,⟨some 18,none,.bin .eql,[.slot 17,.val (.int .i64 0)],none⟩,⟨some 19,none,.id,[.slot 18],none⟩,⟨some 20,(some (19,false)),.id,[.slot 5],none⟩,⟨some 21,(some (19,false)),.id,[.slot 1],none⟩,⟨some 22,(some (19,false)),.bin .gtr,[.slot 20,.slot 21],none⟩,⟨some 23,none,.pick,[.slot 19,.val (.bool true),.slot 22],none⟩])
 (.cond (.slot 23)
 (.seq
 (.region [
 ⟨some 24,none,.id,[.slot 0],none⟩,⟨some 25,none,.nilchk,[.slot 24],none⟩,⟨some 26,none,.faddr 1,[.slot 25],none⟩,⟨none,none,.store 1,[.slot 26,.val (.bool true)],none⟩])
 (.seq
 (.region [
 ⟨some 4,none,.id,[.val (.int .i64 0)],none⟩])
 (.ret)))
 (.skip)))
 (.seq
 (.region [
 ⟨some 27,none,.id,[.slot 0],none⟩,⟨some 28,none,.id,[.slot 0],none⟩,⟨some 29,none,.nilchk,[.slot 28],none⟩,⟨some 30,none,.faddr 0,[.slot 29],none⟩,⟨some 31,none,.load 1 false,[.slot 30],none⟩,⟨some 32,none,.id,[.slot 6],none⟩,⟨some 33,none,.slsl 1 true false false,[.slot 31,.slot 32],none⟩,⟨some 34,none,.nilchk,[.slot 27],none⟩,⟨some 35,none,.faddr 0,[.slot 34],none⟩,⟨none,none,.store 1,[.slot 35,.slot 33],none⟩])
 (.seq
 (.region [
 ⟨some 36,none,.id,[.slot 5],none⟩,⟨some 4,none,.id,[.slot 36],none⟩])
 (.ret))))))
def F_x30 : IFun := ⟨37,[.slot 4],b_x30,3,0,nofn⟩
theorem c_num_Reader_Num : cFun Tryz.prog [2097213] 0 f_x30 = some F_x30 := by kernel_rfl
def L0_x61 : ICode :=
 .seq
 (.region [
 ⟨some 9,none,.bin .lss,[.slot 8,.slot 7],none⟩])
 (.seq
 (.cond (.slot 9)
 (.skip)
 (.exit 0))
 (.seq
 (.block 1
 (.seq
 (.region [
 ⟨some 10,none,.id,[.slot 5],none⟩,⟨some 11,none,.id,[.slot 1],none⟩,⟨some 12,none,.id,[.slot 0],none⟩,⟨some 13,none,.callv,[.slot 11,.slot 12],none⟩,⟨some 14,none,.buildSl 6 1 (.agg [.int .i64 0,.str ⟨#[]⟩,.str ⟨#[]⟩,.str ⟨#[]⟩,.str ⟨#[]⟩,.nilsl]) [0],[.slot 13],none⟩,⟨some 15,none,.append 51 6 96,[.slot 10,.slot 14],none⟩,⟨some 5,none,.id,[.slot 15],none⟩])
 (.seq
 (.region [
 ⟨some 16,none,.id,[.slot 0],none⟩,⟨some 17,none,.call f_x29,[.slot 16],none⟩])
 (.cond (.slot 17)
 (.seq
 (.region [
 ⟨some 4,none,.id,[.val .nilsl],none⟩])
 (.ret))
 (.skip)))))
 (.region [
 ⟨some 18,none,.bin .add,[.slot 8,.val (.int .i64 1)],none⟩,⟨some 8,none,.id,[.slot 18],none⟩])))
def b_x61 : ICode :=
 .seq
 (.region [
 ⟨some 4,none,.id,[.val .nilsl],none⟩])
 (.seq
 (.region [
 ⟨some 5,none,.id,[.val .nilsl],none⟩])
 (.seq
 (.seq
 (.region [
 ⟨some 6,none,.id,[.slot 0],none⟩,⟨some 7,none,.call f_x30,[.slot 6,.val (.int .i64 100000)],none⟩,⟨some 8,none,.id,[.val (.int .i64 0)],none⟩])
 (.block 0
 (.loop L0_x61)))
 (.seq
 (.region [
 ⟨some 19,none,.id,[.slot 5],none⟩,⟨some 4,none,.id,[.slot 19],none⟩])
 (.ret))))
def F_x61 : IFun := ⟨20,[.slot 4],b_x61,3,0,nofn⟩
theorem c_snap_rowsstore_Item : cFun Tryz.prog [2097213] 0 f_x61 = some F_x61 := by kernel_rfl
def L0_x58 : ICode :=
 .seq
 (.region [
 ⟨some 20,none,.bin .lss,[.slot 19,.slot 18],none⟩])
 (.seq
 (.cond (.slot 20)
 (.skip)
 (.exit 0))
 (.seq
 (.block 1
 (.seq
 (.region [
 ⟨some 21,none,.ixaddr 1,[.slot 17,.slot 19],none⟩,⟨some 22,none,.load 1 false,[.slot 21],none⟩,⟨some 4,none,.id,[.slot 22],none⟩])
 (.region [
 ⟨some 23,none,.id,[.slot 4],none⟩,⟨some 24,none,.id,[.slot 0],none⟩,⟨some 25,none,.call f_x32,[.slot 24,.val (.int .i64 1048576)],none⟩,⟨some 26,none,.nilchk,[.slot 23],none⟩,⟨none,none,.store 1,[.slot 26,.slot 25],none⟩])))
 (.region [
 ⟨some 27,none,.bin .add,[.slot 19,.val (.int .i64 1)],none⟩,⟨some 19,none,.id,[.slot 27],none⟩])))
def b_x58 : ICode :=
 .seq
 (.region [
 ⟨some 2,none,.allocH 51 [.int .i64 0,.str ⟨#[]⟩,.str ⟨#[]⟩,.str ⟨#[]⟩,.str ⟨#[]⟩,.nilsl],[],none⟩])
 (.seq
 (.region [
 ⟨some 5,none,.id,[.slot 0],none⟩,⟨some 6,none,.call f_x30,[.slot 5,.val (.int .i64 4611686018427387903)],none⟩,⟨some 7,none,.faddr 0,[.slot 2],none⟩,⟨some 8,none,.faddr 0,[.slot 7],none⟩,⟨none,none,.store 1,[.slot 8,.slot 6],none⟩])
 (.seq
 (.seq
 (.region [
 ⟨some 9,none,.faddr 0,[.slot 2],none⟩,⟨some 10,none,.faddr 1,[.slot 9],none⟩,⟨some 11,none,.faddr 0,[.slot 2],none⟩,⟨some 12,none,.faddr 2,[.slot 11],none⟩,⟨some 13,none,.faddr 0,[.slot 2],none⟩,⟨some 14,none,.faddr 3,[.slot 13],none⟩,⟨some 15,none,.faddr 0,[.slot 2],none⟩,⟨some 16,none,.faddr 4,[.slot 15],none⟩,⟨some 17,none,.buildSl 1 4 .nilptr [0,1,2,3],[.slot 10,.slot 12,.slot 14,.slot 16],none⟩,⟨some 18,none,.lensl,[.slot 17],none⟩,⟨some 19,none,.id,[.val (.int .i64 0)],none⟩])
 (.block 0
 (.loop L0_x58)))
 (.seq
 (.region [
 ⟨some 28,none,.id,[.slot 0],none⟩,⟨some 29,none,.call f_x60,[.slot 28,.val (.func 92 [] [])],none⟩,⟨some 30,none,.faddr 5,[.slot 2],none⟩,⟨none,none,.store 1,[.slot 30,.slot 29],none⟩])
 (.seq
 (.region [
 ⟨some 31,none,.load 6 true,[.slot 2],none⟩,⟨none,none,.store 6,[.slot 2,.slot 31],none⟩])
 (.ret)))))
def F_x58 : IFun := ⟨32,[.cell 2 6 true],b_x58,3,0,nofn⟩
theorem c_snap_readItem : cFun Tryz.prog [2] 0 f_x58 = some F_x58 := by kernel_rfl
def L0_x59 : ICode :=
 .seq
 (.region [
 ⟨some 9,none,.bin .lss,[.slot 8,.slot 7],none⟩])
 (.seq
 (.cond (.slot 9)
 (.skip)
 (.exit 0))
 (.seq
 (.block 1
 (.seq
 (.region [
 ⟨some 10,none,.id,[.slot 5],none⟩,⟨some 11,none,.id,[.slot 1],none⟩,⟨some 12,none,.id,[.slot 0],none⟩,⟨some 13,none,.callv,[.slot 11,.slot 12],none⟩,⟨some 14,none,.buildSl 27 1 (.agg [.int .i64 0,.int .i64 0,.int .i64 0,.int .i64 0,.int .i64 0,.int .i64 0,.int .i64 0,.int .i64 0,.int .i64 0,.int .i64 0,.int .i64 0,.int .i64 0,.int .i64 0,.int .i64 0,.int .i64 0,.int .i64 0,.int .i64 0,.int .i64 0,.int .i64 0,.int .i64 0,.str ⟨#[]⟩,.str ⟨#[]⟩,.str ⟨#[]⟩,.str ⟨#[]⟩,.int .i64 0,.int .i64 0,.str ⟨#[]⟩]) [0],[.slot 13],none⟩,⟨some 15,none,.append 38 27 256,[.slot 10,.slot 14],none⟩,⟨some 5,none,.id,[.slot 15],none⟩])
 (.seq
 (.region [
 ⟨some 16,none,.id,[.slot 0],none⟩,⟨some 17,none,.call f_x29,[.slot 16],none⟩])
 (.cond (.slot 17)
 (.seq
 (.region [
 ⟨some 4,none,.id,[.val .nilsl],none⟩])
 (.ret))
 (.skip)))))
 (.region [
 ⟨some 18,none,.bin .add,[.slot 8,.val (.int .i64 1)],none⟩,⟨some 8,none,.id,[.slot 18],none⟩])))
def b_x59 : ICode :=
 .seq
 (.region [
 ⟨some 4,none,.id,[.val .nilsl],none⟩])
 (.seq
 (.region [
 ⟨some 5,none,.id,[.val .nilsl],none⟩])
 (.seq
 (.seq
 (.region [
 ⟨some 6,none,.id,[.slot 0],none⟩,⟨some 7,none,.call f_x30,[.slot 6,.val (.int .i64 100000)],none⟩,⟨some 8,none,.id,[.val (.int .i64 0)],none⟩])
 (.block 0
 (.loop L0_x59)))
 (.seq
 (.region [
 ⟨some 19,none,.id,[.slot 5],none⟩,⟨some 4,none,.id,[.slot 19],none⟩])
 (.ret))))
def F_x59 : IFun := ⟨20,[.slot 4],b_x59,3,0,nofn⟩
theorem c_snap_rowsapi_Event : cFun Tryz.prog [2097213] 0 f_x59 = some F_x59 := by kernel_rfl
def b_x48 : ICode :=
 .seq
 (.region [
 ⟨some 3,none,.allocL [.int .i64 0,.int .i64 0,.int .i64 0,.int .i64 0,.int .i64 0,.int .i64 0,.int .i64 0,.int .i64 0,.int .i64 0,.int .i64 0,.int .i64 0,.int .i64 0,.int .i64 0,.int .i64 0,.int .i64 0,.int .i64 0,.int .i64 0,.int .i64 0,.int .i64 0,.int .i64 0,.str ⟨#[]⟩,.str ⟨#[]⟩,.str ⟨#[]⟩,.str ⟨#[]⟩,.int .i64 0,.int .i64 0,.str ⟨#[]⟩],[],none⟩])
 (.seq
 (.region [
 ⟨some 7,none,.id,[.slot 0],none⟩,⟨some 8,none,.call f_x8,[.slot 7],none⟩,⟨some 6,none,.id,[.slot 8],none⟩,⟨some 9,none,.extract 0,[.slot 6],none⟩,⟨some 10,none,.extract 1,[.slot 6],none⟩,⟨some 4,none,.allocL [.int .i64 0,.int .i64 0,.int .i64 0,.int .i64 0,.int .i64 0,.int .i64 0,.int .i64 0,.int .i64 0,.int .i64 0,.int .i64 0,.int .i64 0,.int .i64 0,.int .i64 0,.int .i64 0,.int .i64 0,.int .i64 0,.int .i64 0,.int .i64 0,.int .i64 0,.int .i64 0,.str ⟨#[]⟩,.str ⟨#[]⟩,.str ⟨#[]⟩,.str ⟨#[]⟩,.int .i64 0,.int .i64 0,.str ⟨#[]⟩],[],none⟩,⟨none,none,.store 27,[.slot 4,.slot 9],none⟩,⟨some 5,none,.id,[.slot 10],none⟩])
 (.seq
 (.region [
 ⟨some 11,none,.load 1 false,[.slot 1],none⟩,⟨some 12,none,.id,[.slot 11],none⟩,⟨some 13,(some (12,false)),.id,[.slot 5],none⟩,⟨some 14,(some (12,false)),.un .not,[.slot 13],none⟩,⟨some 15,(some (12,false)),.id,[.slot 14],none⟩,⟨some 16,(some (15,true)),.id,[.slot 0],none⟩,⟨some 17,(some (15,true)),.call f_x29,[.slot 16],none⟩,⟨some 18,(some (15,true)),.un .not,[.slot 17],none⟩,⟨some 19,(some (12,false)),.pick,[.slot 15,.slot 18,.val (.bool false)],none⟩,⟨some 20,none,.pick,[.slot 12,.val (.bool true),.slot 19],none⟩,⟨none,none,.store 1,[.slot 1,.slot 20],none⟩])
 (.seq
 (.region [
 ⟨some 21,none,.load 27 true,[.slot 4],none⟩,⟨none,none,.store 27,[.slot 3,.slot 21],none⟩])
 (.ret))))
def F_x48 : IFun := ⟨22,[.cell 3 27 true],b_x48,3,0,nofn⟩
theorem c_snap_Parse_1 : cFun Tryz.prog [1048579,1048580,2097213] 0 f_x48 = some F_x48 := by kernel_rfl
def b_x8 : ICode :=
 .seq
 (.region [
 ⟨some 2,none,.allocL [.int .i64 0,.int .i64 0,.int .i64 0,.int .i64 0,.int .i64 0,.int .i64 0,.int .i64 0,.int .i64 0,.int .i64 0,.int .i64 0,.int .i64 0,.int .i64 0,.int .i64 0,.int .i64 0,.int .i64 0,.int .i64 0,.int .i64 0,.int .i64 0,.int .i64 0,.int .i64 0,.str ⟨#[]⟩,.str ⟨#[]⟩,.str ⟨#[]⟩,.str ⟨#[]⟩,.int .i64 0,.int .i64 0,.str ⟨#[]⟩],[],none⟩,⟨some 3,none,.id,[.val (.bool false)],none⟩])
 (.seq
 (.region [
 ⟨some 5,none,.id,[.slot 0],none⟩,⟨some 6,none,.call f_x12,[.slot 5],none⟩,⟨some 4,none,.allocL [.int .i64 0,.int .i64 0,.int .i64 0,.int .i64 0,.int .i64 0,.int .i64 0,.int .i64 0,.int .i64 0,.int .i64 0,.int .i64 0,.int .i64 0,.int .i64 0,.int .i64 0,.int .i64 0,.int .i64 0,.int .i64 0,.int .i64 0,.int .i64 0,.int .i64 0,.int .i64 0,.str ⟨#[]⟩,.str ⟨#[]⟩,.str ⟨#[]⟩,.str ⟨#[]⟩,.int .i64 0,.int .i64 0,.str ⟨#[]⟩],[],none⟩,⟨none,none,.store 27,[.slot 4,.slot 6],none⟩])
 (.seq
 (.seq
 (.region [
 ⟨some 7,none,.id,[.slot 0],none⟩,⟨some 8,none,.call f_x29,[.slot 7],none⟩,⟨some 9,none,.id,[.slot 8],none⟩,⟨some 10,(some (9,false)),.load 27 true,[.slot 4],none⟩,⟨some 11,(some (9,false)),.call f_x9,[.slot 10],none⟩,⟨some 12,(some (9,false)),.bin .neq,[.slot 11,.val (.int .i64 0)],none⟩,⟨some 13,none,.pick,[.slot 9,.val (.bool true),.slot 12],none⟩])
 (.cond (.slot 13)
 (.seq
 (.region [
 ⟨some 14,none,.build [.int .i64 0,.int .i64 0,.int .i64 0,.int .i64 0,.int .i64 0,.int .i64 0,.int .i64 0,.int .i64 0,.int .i64 0,.int .i64 0,.int .i64 0,.int .i64 0,.int .i64 0,.int .i64 0,.int .i64 0,.int .i64 0,.int .i64 0,.int .i64 0,.int .i64 0,.int .i64 0,.str ⟨#[]⟩,.str ⟨#[]⟩,.str ⟨#[]⟩,.str ⟨#[]⟩,.int .i64 0,.int .i64 0,.str ⟨#[]⟩] [],[],none⟩,⟨none,none,.store 27,[.slot 2,.slot 14],none⟩,⟨some 3,none,.id,[.val (.bool false)],none⟩])
 (.ret))
 (.skip)))
 (.seq
 (.region [
 ⟨some 15,none,.load 27 true,[.slot 4],none⟩,⟨none,none,.store 27,[.slot 2,.slot 15],none⟩,⟨some 3,none,.id,[.val (.bool true)],none⟩])
 (.ret))))
def F_x8 : IFun := ⟨16,[.cell 2 27 true,.slot 3],b_x8,3,0,nofn⟩
theorem c_event_Read : cFun Tryz.prog [1048578,1048580,2097213] 0 f_x8 = some F_x8 := by kernel_rfl
def b_x29 : ICode :=
 .seq
 (.region [
 ⟨some 2,none,.id,[.val (.bool false)],none⟩])
 (.seq
 (.region [
 ⟨some 3,none,.id,[.slot 0],none⟩,⟨some 4,none,.eq1 false .ptr,[.slot 3,.val .nilptr],none⟩,⟨some 5,none,.id,[.slot 4],none⟩,⟨some 6,(some (5,false)),.id,[.slot 0],none⟩,⟨some 7,(some (5,false)),.nilchk,[.slot 6],none⟩,⟨some 8,(some (5,false)),.faddr 1,[.slot 7],none⟩,⟨some 9,(some (5,false)),.load 1 false,[.slot 8],none⟩,⟨some 10,none,.pick,[.slot 5,.val (.bool true),.slot 9],none⟩,⟨some 2,none,.id,[.slot 10],none⟩])
 (.ret))
def F_x29 : IFun := ⟨11,[.slot 2],b_x29,3,1,nofn⟩
theorem c_num_Reader_Fail : cFun Tryz.prog [] 1 f_x29 = some F_x29 := by kernel_rfl
def b_x28 : ICode :=
 .seq
 (.region [
 ⟨some 2,none,.id,[.val (.bool false)],none⟩])
 (.seq
 (.region [
 ⟨some 3,none,.id,[.slot 0],none⟩,⟨some 4,none,.call f_x29,[.slot 3],none⟩,⟨some 5,none,.un .not,[.slot 4],none⟩,⟨some 6,none,.id,[.slot 5],none⟩,⟨some 7,(some (6,true)),.id,[.slot 0],none⟩,⟨some 8,(some (6,true)),.nilchk,[.slot 7],none⟩,⟨some 9,(some (6,true)),.faddr 0,[.slot 8],none⟩,⟨some 10,(some (6,true)),.load 1 false,[.slot 9],none⟩,⟨some 11,(some (6,true)),.lensl,[.slot 10],none⟩,⟨some 12,(some (6,true)),.bin .eql,[.slot 11,.val (.int .i64 0)],none⟩,⟨some 13,none,.pick,[.slot 6,.slot 12,.val (.bool false)],none⟩,⟨some 2,none,.id,[.slot 13],none⟩])
 (.ret))
def F_x28 : IFun := ⟨14,[.slot 2],b_x28,3,1,nofn⟩
theorem c_num_Reader_Done : cFun Tryz.prog [2097213] 1 f_x28 = some F_x28 := by kernel_rfl
def b_x51 : ICode :=
 .seq
 (.region [
 ⟨some 2,none,.boxL,[.slot 0],none⟩,⟨some 3,none,.boxL,[.slot 1],none⟩,⟨some 4,none,.id,[.val (.bool false)],none⟩])
 (.seq
 (.region [
 ⟨some 5,none,.faddr 0,[.slot 2],none⟩,⟨some 6,none,.load 5 true,[.slot 5],none⟩,⟨some 7,none,.faddr 0,[.slot 3],none⟩,⟨some 8,none,.load 5 true,[.slot 7],none⟩,⟨some 9,none,.eqv false [(.int .i64),.str,.str,.str,.str],[.slot 6,.slot 8],none⟩,⟨some 10,none,.id,[.slot 9],none⟩,⟨some 11,(some (10,true)),.faddr 5,[.slot 2],none⟩,⟨some 12,(some (10,true)),.load 1 false,[.slot 11],none⟩,⟨some 13,(some (10,true)),.faddr 5,[.slot 3],none⟩,⟨some 14,(some (10,true)),.load 1 false,[.slot 13],none⟩,⟨some 15,(some (10,true)),.call f_x42,[.slot 12,.slot 14],none⟩,⟨some 16,none,.pick,[.slot 10,.slot 15,.val (.bool false)],none⟩,⟨some 4,none,.id,[.slot 16],none⟩])
 (.ret))
def F_x51 : IFun := ⟨17,[.slot 4],b_x51,3,0,nofn⟩
theorem c_snap_Same_1 : cFun Tryz.prog [1048578,1048579] 0 f_x51 = some F_x51 := by kernel_rfl
def L0_x42 : ICode :=
 .seq
 (.region [
 ⟨some 14,none,.bin .lss,[.slot 13,.slot 12],none⟩])
 (.seq
 (.cond (.slot 14)
 (.skip)
 (.exit 0))
 (.seq
 (.block 1
 (.seq
 (.region [
 ⟨some 15,none,.id,[.slot 13],none⟩,⟨some 5,none,.id,[.slot 15],none⟩])
 (.seq
 (.region [
 ⟨some 16,none,.id,[.slot 0],none⟩,⟨some 17,none,.id,[.slot 5],none⟩,⟨some 18,none,.ixaddr 5,[.slot 16,.slot 17],none⟩,⟨some 19,none,.load 5 true,[.slot 18],(some (.el))⟩,⟨some 20,none,.id,[.slot 1],none⟩,⟨some 21,none,.id,[.slot 5],none⟩,⟨some 22,none,.ixaddr 5,[.slot 20,.slot 21],none⟩,⟨some 23,none,.load 5 true,[.slot 22],(some (.el))⟩,⟨some 24,none,.eqv true [(.int .i64),(.int .i64),(.int .i64),(.int .i64),.str],[.slot 19,.slot 23],none⟩])
 (.cond (.slot 24)
 (.seq
 (.region [
 ⟨some 4,none,.id,[.val (.bool false)],none⟩])
 (.ret))
 (.skip)))))
 (.region [
 ⟨some 25,none,.bin .add,[.slot 13,.val (.int .i64 1)],none⟩,⟨some 13,none,.id,[.slot 25],none⟩])))
def b_x42 : ICode :=
 .seq
 (.region [
 ⟨some 4,none,.id,[.val (.bool false)],none⟩])
 (.seq
 (.seq
 (.region [
 ⟨some 6,none,.id,[.slot 0],none⟩,⟨some 7,none,.lensl,[.slot 6],none⟩,⟨some 8,none,.id,[.slot 1],none⟩,⟨some 9,none,.lensl,[.slot 8],none⟩,⟨some 10,none,.bin .neq,[.slot 7,.slot 9],none⟩])
 (.cond (.slot 10)
 (.seq
 (.region [
 ⟨some 4,none,.id,[.val (.bool false)],none⟩])
 (.ret))
 (.skip)))
 (.seq
 (.seq
 (.region [
 ⟨some 11,none,.id,[.slot 0],none⟩,⟨some 12,none,.lensl,[.slot 11],none⟩,⟨some 13,none,.id,[.val (.int .i64 0)],none⟩])
 (.block 0
 (.loop L0_x42)))
 (.seq
 (.region [
 ⟨some 4,none,.id,[.val (.bool true)],none⟩])
 (.ret))))
def F_x42 : IFun := ⟨26,[.slot 4],b_x42,3,0,nofn⟩
theorem c_slices_Equalstore_Entrystore_Entry : cFun Tryz.prog [] 0 f_x42 = some F_x42 := by kernel_rfl
def L0_x40 : ICode :=
 .seq
 (.region [
 ⟨some 18,none,.bin .lss,[.slot 17,.slot 16],none⟩])
 (.seq
 (.cond (.slot 18)
 (.skip)
 (.exit 0))
 (.seq
 (.block 1
 (.seq
 (.region [
 ⟨some 19,none,.id,[.slot 17],none⟩,⟨some 20,none,.ixaddr 6,[.slot 15,.slot 17],none⟩,⟨some 21,none,.load 6 true,[.slot 20],none⟩,⟨some 8,none,.allocL [.int .i64 0,.str ⟨#[]⟩,.str ⟨#[]⟩,.str ⟨#[]⟩,.str ⟨#[]⟩,.nilsl],[],none⟩,⟨some 7,none,.id,[.slot 19],none⟩,⟨none,none,.store 6,[.slot 8,.slot 21],none⟩])
 (.seq
 (.region [
 ⟨some 22,none,.id,[.slot 1],none⟩,⟨some 23,none,.id,[.slot 7],none⟩,⟨some 24,none,.ixaddr 6,[.slot 22,.slot 23],none⟩,⟨some 25,none,.load 6 true,[.slot 24],none⟩,⟨some 9,none,.allocL [.int .i64 0,.str ⟨#[]⟩,.str ⟨#[]⟩,.str ⟨#[]⟩,.str ⟨#[]⟩,.nilsl],[],none⟩,⟨none,none,.store 6,[.slot 9,.slot 25],none⟩])
 (.seq
 (.region [
 ⟨some 26,none,.id,[.slot 2],none⟩,⟨some 27,none,.load 6 true,[.slot 8],none⟩,⟨some 28,none,.load 6 true,[.slot 9],none⟩,⟨some 29,none,.callv,[.slot 26,.slot 27,.slot 28],none⟩,⟨some 30,none,.un .not,[.slot 29],none⟩])
 (.cond (.slot 30)
 (.seq
 (.region [
 ⟨some 6,none,.id,[.val (.bool false)],none⟩])
 (.ret))
 (.skip))))))
 (.region [
 ⟨some 31,none,.bin .add,[.slot 17,.val (.int .i64 1)],none⟩,⟨some 17,none,.id,[.slot 31],none⟩])))
def b_x40 : ICode :=
 .seq
 (.region [
 ⟨some 6,none,.id,[.val (.bool false)],none⟩])
 (.seq
 (.seq
 (.region [
 ⟨some 10,none,.id,[.slot 0],none⟩,⟨some 11,none,.lensl,[.slot 10],none⟩,⟨some 12,none,.id,[.slot 1],none⟩,⟨some 13,none,.lensl,[.slot 12],none⟩,⟨some 14,none,.bin .neq,[.slot 11,.slot 13],none⟩])
 (.cond (.slot 14)
 (.seq
 (.region [
 ⟨some 6,none,.id,[.val (.bool false)],none⟩])
 (.ret))
 (.skip)))
 (.seq
 (.seq
 (.region [
 ⟨some 15,none,.id,[.slot 0],none⟩,⟨some 16,none,.lensl,[.slot 15],none⟩,⟨some 17,none,.id,[.val (.int .i64 0)],none⟩])
 (.block 0
 (.loop L0_x40)))
 (.seq
 (.region [
 ⟨some 6,none,.id,[.val (.bool true)],none⟩])
 (.ret))))
def F_x40 : IFun := ⟨32,[.slot 6],b_x40,3,0,nofn⟩
theorem c_slices_EqualFuncstore_Itemstore_Itemstore_Itemstore_Item : cFun Tryz.prog [1048584,1048585] 0 f_x40 = some F_x40 := by kernel_rfl
def L0_x41 : ICode :=
 .seq
 (.region [
 ⟨some 14,none,.bin .lss,[.slot 13,.slot 12],none⟩])
 (.seq
 (.cond (.slot 14)
 (.skip)
 (.exit 0))
 (.seq
 (.block 1
 (.seq
 (.region [
 ⟨some 15,none,.id,[.slot 13],none⟩,⟨some 5,none,.id,[.slot 15],none⟩])
 (.seq
 (.region [
 ⟨some 16,none,.id,[.slot 0],none⟩,⟨some 17,none,.id,[.slot 5],none⟩,⟨some 18,none,.ixaddr 27,[.slot 16,.slot 17],none⟩,⟨some 19,none,.load 27 true,[.slot 18],(some (.el))⟩,⟨some 20,none,.id,[.slot 1],none⟩,⟨some 21,none,.id,[.slot 5],none⟩,⟨some 22,none,.ixaddr 27,[.slot 20,.slot 21],none⟩,⟨some 23,none,.load 27 true,[.slot 22],(some (.el))⟩,⟨some 24,none,.eqv true [(.int .i64),(.int .i64),(.int .i64),(.int .i64),(.int .i64),(.int .i64),(.int .i64),(.int .i64),(.int .i64),(.int .i64),(.int .i64),(.int .i64),(.int .i64),(.int .i64),(.int .i64),(.int .i64),(.int .i64),(.int .i64),(.int .i64),(.int .i64),.str,.str,.str,.str,(.int .i64),(.int .i64),.str],[.slot 19,.slot 23],none⟩])
 (.cond (.slot 24)
 (.seq
 (.region [
 ⟨some 4,none,.id,[.val (.bool false)],none⟩])
 (.ret))
 (.skip)))))
 (.region [
 ⟨some 25,none,.bin .add,[.slot 13,.val (.int .i64 1)],none⟩,⟨some 13,none,.id,[.slot 25],none⟩])))
def b_x41 : ICode :=
 .seq
 (.region [
 ⟨some 4,none,.id,[.val (.bool false)],none⟩])
 (.seq
 (.seq
 (.region [
 ⟨some 6,none,.id,[.slot 0],none⟩,⟨some 7,none,.lensl,[.slot 6],none⟩,⟨some 8,none,.id,[.slot 1],none⟩,⟨some 9,none,.lensl,[.slot 8],none⟩,⟨some 10,none,.bin .neq,[.slot 7,.slot 9],none⟩])
 (.cond (.slot 10)
 (.seq
 (.region [
 ⟨some 4,none,.id,[.val (.bool false)],none⟩])
 (.ret))
 (.skip)))
 (.seq
 (.seq
 (.region [
 ⟨some 11,none,.id,[.slot 0],none⟩,⟨some 12,none,.lensl,[.slot 11],none⟩,⟨some 13,none,.id,[.val (.int .i64 0)],none⟩])
 (.block 0
 (.loop L0_x41)))
 (.seq
 (.region [
 ⟨some 4,none,.id,[.val (.bool true)],none⟩])
 (.ret))))
def F_x41 : IFun := ⟨26,[.slot 4],b_x41,3,0,nofn⟩
theorem c_slices_Equalapi_Eventapi_Event : cFun Tryz.prog [] 0 f_x41 = some F_x41 := by kernel_rfl
def L0_x2 : ICode :=
 .seq
 (.region [
 ⟨some 9,none,.bin .lss,[.slot 8,.slot 7],none⟩])
 (.seq
 (.cond (.slot 9)
 (.skip)
 (.exit 0))
 (.seq
 (.block 1
 (.seq
 (.region [
 ⟨some 10,none,.ixaddr 1,[.slot 6,.slot 8],none⟩,⟨some 11,none,.load 1 false,[.slot 10],none⟩,⟨some 5,none,.id,[.slot 11],none⟩])
 (.seq
 (.region [
 ⟨some 12,none,.id,[.slot 5],none⟩,⟨some 13,none,.id,[.slot 3],none⟩,⟨some 14,none,.bin .neq,[.slot 12,.slot 13],none⟩])
 (.cond (.slot 14)
 (.seq
 (.region [
 ⟨some 15,none,.id,[.slot 5],none⟩,⟨some 2,none,.id,[.slot 15],none⟩])
 (.ret))
 (.skip)))))
 (.region [
 ⟨some 16,none,.bin .add,[.slot 8,.val (.int .i64 1)],none⟩,⟨some 8,none,.id,[.slot 16],none⟩])))
def b_x2 : ICode :=
 .seq
 (.region [
 ⟨some 2,none,.id,[.val (.int .i64 0)],none⟩])
 (.seq
 (.region [
 ⟨some 3,none,.id,[.val (.int .i64 0)],none⟩])
 (.seq
 (.seq
 (.region [
 ⟨some 6,none,.id,[.slot 0],none⟩,⟨some 7,none,.lensl,[.slot 6],none⟩,⟨some 8,none,.id,[.val (.int .i64 0)],none⟩])
 (.block 0
 (.loop L0_x2)))
 (.seq
 (.region [
 ⟨some 17,none,.id,[.slot 3],none⟩,⟨some 2,none,.id,[.slot 17],none⟩])
 (.ret))))
def F_x2 : IFun := ⟨18,[.slot 2],b_x2,3,0,nofn⟩
theorem c_cmp_Orint : cFun Tryz.prog [] 0 f_x2 = some F_x2 := by kernel_rfl
def b_x0 : ICode :=
 .seq
 (.region [
 ⟨some 4,none,.id,[.val (.int .i64 0)],none⟩])
 (.seq
 (.region [
 ⟨some 7,none,.id,[.slot 0],none⟩,⟨some 8,none,.call f_x3,[.slot 7],none⟩,⟨some 5,none,.id,[.slot 8],none⟩])
 (.seq
 (.region [
 ⟨some 9,none,.id,[.slot 1],none⟩,⟨some 10,none,.call f_x3,[.slot 9],none⟩,⟨some 6,none,.id,[.slot 10],none⟩])
 (.seq
 (.seq
 (.region [
 ⟨some 11,none,.id,[.slot 5],none⟩])
 (.cond (.slot 11)
 (.seq
 (.seq
 (.region [
 ⟨some 12,none,.id,[.slot 6],none⟩])
 (.cond (.slot 12)
 (.seq
 (.region [
 ⟨some 4,none,.id,[.val (.int .i64 0)],none⟩])
 (.ret))
 (.skip)))
 (.seq
 (.region [
 ⟨some 4,none,.id,[.val (.int .i64 (-1))],none⟩])
 (.ret)))
 (.skip)))
 (.seq
 (.seq
 (.region [
 ⟨some 13,none,.id,[.slot 6],none⟩])
 (.cond (.slot 13)
 (.seq
 (.region [
 ⟨some 4,none,.id,[.val (.int .i64 1)],none⟩])
 (.ret))
 (.skip)))
 (.seq
 (.seq
 (.region [
 ⟨some 14,none,.id,[.slot 0],none⟩,⟨some 15,none,.id,[.slot 1],none⟩,⟨some 16,none,.bin .lss,[.slot 14,.slot 15],none⟩])
 (.cond (.slot 16)
 (.seq
 (.region [
 ⟨some 4,none,.id,[.val (.int .i64 (-1))],none⟩])
 (.ret))
 (.skip)))
 (.seq
 (.seq
 (.region [
 ⟨some 17,none,.id,[.slot 0],none⟩,⟨some 18,none,.id,[.slot 1],none⟩,⟨some 19,none,.bin .gtr,[.slot 17,.slot 18],none⟩])
 (.cond (.slot 19)
 (.seq
 (.region [
 ⟨some 4,none,.id,[.val (.int .i64 1)],none⟩])
 (.ret))
 (.skip)))
 (.seq
 (.region [
 ⟨some 4,none,.id,[.val (.int .i64 0)],none⟩])
 (.ret))))))))
def F_x0 : IFun := ⟨20,[.slot 4],b_x0,3,0,nofn⟩
theorem c_cmp_Compareint : cFun Tryz.prog [] 0 f_x0 = some F_x0 := by kernel_rfl
def b_x1 : ICode :=
 .seq
 (.region [
 ⟨some 4,none,.id,[.val (.int .i64 0)],none⟩])
 (.seq
 (.region [
 ⟨some 7,none,.id,[.slot 0],none⟩,⟨some 8,none,.call f_x4,[.slot 7],none⟩,⟨some 5,none,.id,[.slot 8],none⟩])
 (.seq
 (.region [
 ⟨some 9,none,.id,[.slot 1],none⟩,⟨some 10,none,.call f_x4,[.slot 9],none⟩,⟨some 6,none,.id,[.slot 10],none⟩])
 (.seq
 (.seq
 (.region [
 ⟨some 11,none,.id,[.slot 5],none⟩])
 (.cond (.slot 11)
 (.seq
 (.seq
 (.region [
 ⟨some 12,none,.id,[.slot 6],none⟩])
 (.cond (.slot 12)
 (.seq
 (.region [
 ⟨some 4,none,.id,[.val (.int .i64 0)],none⟩])
 (.ret))
 (.skip)))
 (.seq
 (.region [
 ⟨some 4,none,.id,[.val (.int .i64 (-1))],none⟩])
 (.ret)))
 (.skip)))
 (.seq
 (.seq
 (.region [
 ⟨some 13,none,.id,[.slot 6],none⟩])
 (.cond (.slot 13)
 (.seq
 (.region [
 ⟨some 4,none,.id,[.val (.int .i64 1)],none⟩])
 (.ret))
 (.skip)))
 (.seq
 (.seq
 (.region [
 ⟨some 14,none,.id,[.slot 0],none⟩,⟨some 15,none,.id,[.slot 1],none⟩,⟨some 16,none,.bin .lss,[.slot 14,.slot 15],none⟩])
 (.cond (.slot 16)
 (.seq
 (.region [
 ⟨some 4,none,.id,[.val (.int .i64 (-1))],none⟩])
 (.ret))
 (.skip)))
 (.seq
 (.seq
 (.region [
 ⟨some 17,none,.id,[.slot 0],none⟩,⟨some 18,none,.id,[.slot 1],none⟩,⟨some 19,none,.bin .gtr,[.slot 17,.slot 18],none⟩])
 (.cond (.slot 19)
 (.seq
 (.region [
 ⟨some 4,none,.id,[.val (.int .i64 1)],none⟩])
 (.ret))
 (.skip)))
 (.seq
 (.region [
 ⟨some 4,none,.id,[.val (.int .i64 0)],none⟩])
 (.ret))))))))
def F_x1 : IFun := ⟨20,[.slot 4],b_x1,3,0,nofn⟩
theorem c_cmp_Comparestring : cFun Tryz.prog [] 0 f_x1 = some F_x1 := by kernel_rfl
def b_x22 : ICode :=
 .seq
 (.region [
 ⟨some 1,none,.boxL,[.slot 0],none⟩,⟨some 2,none,.id,[.val (.bool false)],none⟩])
 (.seq
 (.seq
 (.region [
 ⟨some 5,none,.faddr 1,[.slot 1],none⟩,⟨some 6,none,.load 5 true,[.slot 5],none⟩,⟨some 7,none,.call f_x16,[.slot 6],none⟩,⟨some 8,none,.un .not,[.slot 7],none⟩])
 (.cond (.slot 8)
 (.seq
 (.region [
 ⟨some 2,none,.id,[.val (.bool false)],none⟩])
 (.ret))
 (.skip)))
 (.seq
 (.region [
 ⟨some 9,none,.faddr 1,[.slot 1],none⟩,⟨some 10,none,.faddr 0,[.slot 9],none⟩,⟨some 11,none,.load 1 false,[.slot 10],none⟩,⟨some 12,none,.bin .geq,[.slot 11,.val (.int .i64 4)],none⟩,⟨some 3,none,.id,[.slot 12],none⟩])
 (.seq
 (.region [
 ⟨some 13,none,.faddr 6,[.slot 1],none⟩,⟨some 14,none,.load 3 true,[.slot 13],none⟩,⟨some 15,none,.build [.int .i64 0,.int .i64 0,.str ⟨#[]⟩] [],[],none⟩,⟨some 16,none,.eqv false [(.int .i64),(.int .i64),.str],[.slot 14,.slot 15],none⟩,⟨some 4,none,.id,[.slot 16],none⟩])
 (.seq
 (.seq
 (.region [
 ⟨some 17,none,.faddr 0,[.slot 1],none⟩,⟨some 18,none,.load 1 false,[.slot 17],none⟩])
 (.block 0
 (.seq
 (.seq
 (.region [
 ⟨some 20,none,.bin .eql,[.slot 18,.val (.int .i64 1)],none⟩,⟨some 19,none,.id,[.slot 20],none⟩])
 (.cond (.slot 19)
 (.skip)
 (.region [
 ⟨some 21,none,.bin .eql,[.slot 18,.val (.int .i64 2)],none⟩,⟨some 19,none,.id,[.slot 21],none⟩])))
 (.cond (.slot 19)
 (.seq
 (.region [
 ⟨some 22,none,.id,[.slot 3],none⟩,⟨some 23,none,.un .not,[.slot 22],none⟩,⟨some 24,none,.id,[.slot 23],none⟩,⟨some 25,(some (24,true)),.id,[.slot 4],none⟩,⟨some 26,none,.pick,[.slot 24,.slot 25,.val (.bool false)],none⟩,⟨some 2,none,.id,[.slot 26],none⟩])
 (.ret))
 (.seq
 (.region [
 ⟨some 28,none,.bin .eql,[.slot 18,.val (.int .i64 3)],none⟩,⟨some 27,none,.id,[.slot 28],none⟩])
 (.cond (.slot 27)
 (.seq
 (.region [
 ⟨some 29,none,.id,[.slot 3],none⟩,⟨some 30,none,.id,[.slot 29],none⟩,⟨some 31,(some (30,true)),.faddr 6,[.slot 1],none⟩,⟨some 32,(some (30,true)),.faddr 0,[.slot 31],none⟩,⟨some 33,(some (30,true)),.load 1 false,[.slot 32],none⟩,⟨some 34,(some (30,true)),.bin .geq,[.slot 33,.val (.int .i64 1)],none⟩,⟨some 35,none,.pick,[.slot 30,.slot 34,.val (.bool false)],none⟩,⟨some 36,none,.id,[.slot 35],none⟩,⟨some 37,(some (36,true)),.faddr 6,[.slot 1],none⟩,⟨some 38,(some (36,true)),.faddr 0,[.slot 37],none⟩,⟨some 39,(some (36,true)),.load 1 false,[.slot 38],none⟩,⟨some 40,(some (36,true)),.bin .leq,[.slot 39,.val (.int .i64 3)],none⟩,⟨some 41,none,.pick,[.slot 36,.slot 40,.val (.bool false)],none⟩,⟨some 42,none,.id,[.slot 41],none⟩,⟨some 43,(some (42,true)),.faddr 6,[.slot 1],none⟩,⟨some 44,(some (42,true)),.load 3 true,[.slot 43],none⟩,⟨some 45,(some (42,true)),.call f_x19,[.slot 44],none⟩,⟨some 46,none,.pick,[.slot 42,.slot 45,.val (.bool false)],none⟩,⟨some 2,none,.id,[.slot 46],none⟩])
 (.ret))
 (.seq
 (.region [
 ⟨some 48,none,.bin .eql,[.slot 18,.val (.int .i64 4)],none⟩,⟨some 47,none,.id,[.slot 48],none⟩])
 (.cond (.slot 47)
 (.seq
 (.region [
 ⟨some 49,none,.id,[.slot 3],none⟩,⟨some 50,none,.id,[.slot 49],none⟩,⟨some 51,(some (50,true)),.id,[.slot 4],none⟩,⟨some 52,none,.pick,[.slot 50,.slot 51,.val (.bool false)],none⟩,⟨some 2,none,.id,[.slot 52],none⟩])
 (.ret))
 (.skip)))))))))
 (.seq
 (.region [
 ⟨some 2,none,.id,[.val (.bool false)],none⟩])
 (.ret))))))
def F_x22 : IFun := ⟨53,[.slot 2],b_x22,3,0,nofn⟩
theorem c_hedgerowref06_Change : cFun Tryz.prog [1048577] 0 f_x22 = some F_x22 := by kernel_rfl
def b_x87 : ICode :=
 .seq
 (.region [
 ⟨some 2,none,.boxL,[.slot 0],none⟩,⟨some 3,none,.boxL,[.slot 1],none⟩,⟨some 4,none,.id,[.val (.bool false)],none⟩])
 (.seq
 (.region [
 ⟨some 5,none,.load 2 true,[.slot 3],(some (.loc 3))⟩,⟨some 6,none,.call f_x85,[.slot 5],none⟩,⟨some 7,none,.id,[.slot 6],none⟩,⟨some 8,(some (7,true)),.faddr 0,[.slot 3],none⟩,⟨some 9,(some (7,true)),.load 1 false,[.slot 8],(some (.loc 3))⟩,⟨some 10,(some (7,true)),.ixaddrA 16 1,[.slot 2,.slot 9],none⟩,⟨some 11,(some (7,true)),.load 1 false,[.slot 10],(some (.loc 2))⟩,⟨some 12,(some (7,true)),.faddr 1,[.slot 3],none⟩,⟨some 13,(some (7,true)),.load 1 false,[.slot 12],(some (.loc 3))⟩,⟨some 14,(some (7,true)),.bin .sub,[.slot 13,.val (.int .i64 1)],none⟩,⟨some 15,(some (7,true)),.bin .eql,[.slot 11,.slot 14],none⟩,⟨some 16,none,.pick,[.slot 7,.slot 15,.val (.bool false)],none⟩,⟨some 4,none,.id,[.slot 16],none⟩])
 (.ret))
def F_x87 : IFun := ⟨17,[.slot 4],b_x87,3,0,nofn⟩
theorem c_vector_Next : cFun Tryz.prog [1048578,1048579] 0 f_x87 = some F_x87 := by kernel_rfl
def L0_x88 : ICode :=
 .seq
 (.region [
 ⟨some 7,none,.bin .lss,[.slot 6,.val (.int .i64 16)],none⟩])
 (.seq
 (.cond (.slot 7)
 (.skip)
 (.exit 0))
 (.seq
 (.block 1
 (.seq
 (.region [
 ⟨some 8,none,.ixarr 16 1 false,[.slot 5,.slot 6],none⟩,⟨some 4,none,.id,[.slot 8],none⟩])
 (.seq
 (.region [
 ⟨some 9,none,.id,[.slot 4],none⟩,⟨some 10,none,.bin .lss,[.slot 9,.val (.int .i64 0)],none⟩,⟨some 11,none,.id,[.slot 10],none⟩,⟨some 12,(some (11,false)),.id,[.slot 4],none⟩,⟨some 13,(some (11,false)),.bin .gtr,[.slot 12,.val (.int .i64 1048576)],none⟩,⟨some 14,none,.pick,[.slot 11,.val (.bool true),.slot 13],none⟩])
 (.cond (.slot 14)
 (.seq
 (.region [
 ⟨some 2,none,.id,[.val (.bool false)],none⟩])
 (.ret))
 (.skip)))))
 (.region [
 ⟨some 15,none,.bin .add,[.slot 6,.val (.int .i64 1)],none⟩,⟨some 6,none,.id,[.slot 15],none⟩])))
def b_x88 : ICode :=
 .seq
 (.region [
 ⟨some 1,none,.boxL,[.slot 0],none⟩,⟨some 2,none,.id,[.val (.bool false)],none⟩])
 (.seq
 (.seq
 (.region [
 ⟨some 5,none,.load 16 true,[.slot 1],none⟩,⟨some 6,none,.id,[.val (.int .i64 0)],none⟩])
 (.block 0
 (.loop L0_x88)))
 (.seq
 (.region [
 ⟨some 2,none,.id,[.val (.bool true)],none⟩])
 (.ret)))
def F_x88 : IFun := ⟨16,[.slot 2],b_x88,3,0,nofn⟩
theorem c_vector_Right : cFun Tryz.prog [1048577] 0 f_x88 = some F_x88 := by kernel_rfl
def b_x5 : ICode :=
 .seq
 (.region [
 ⟨some 1,none,.boxL,[.slot 0],none⟩,⟨some 2,none,.id,[.val (.int .i64 0)],none⟩])
 (.seq
 (.seq
 (.region [
 ⟨some 3,none,.load 9 true,[.slot 1],none⟩,⟨some 4,none,.call f_x11,[.slot 3],none⟩,⟨some 5,none,.un .not,[.slot 4],none⟩])
 (.cond (.slot 5)
 (.seq
 (.region [
 ⟨some 2,none,.id,[.val (.int .i64 1)],none⟩])
 (.ret))
 (.skip)))
 (.seq
 (.region [
 ⟨some 2,none,.id,[.val (.int .i64 0)],none⟩])
 (.ret)))
def F_x5 : IFun := ⟨6,[.slot 2],b_x5,3,0,nofn⟩
theorem c_event_Change : cFun Tryz.prog [1048577] 0 f_x5 = some F_x5 := by kernel_rfl
def b_x6 : ICode :=
 .seq
 (.region [
 ⟨some 1,none,.boxL,[.slot 0],none⟩,⟨some 2,none,.allocL [.int .i64 0,.int .i64 0,.str ⟨#[]⟩,.str ⟨#[]⟩,.str ⟨#[]⟩,.str ⟨#[]⟩,.int .i64 0,.int .i64 0,.str ⟨#[]⟩],[],none⟩])
 (.seq
 (.region [
 ⟨some 3,none,.faddr 18,[.slot 1],none⟩,⟨some 4,none,.load 1 false,[.slot 3],none⟩,⟨some 5,none,.faddr 19,[.slot 1],none⟩,⟨some 6,none,.load 5 true,[.slot 5],none⟩,⟨some 7,none,.faddr 24,[.slot 1],none⟩,⟨some 8,none,.load 3 true,[.slot 7],none⟩,⟨some 9,none,.build [.int .i64 0,.int .i64 0,.str ⟨#[]⟩,.str ⟨#[]⟩,.str ⟨#[]⟩,.str ⟨#[]⟩,.int .i64 0,.int .i64 0,.str ⟨#[]⟩] [(0,1),(1,5),(6,3)],[.slot 4,.slot 6,.slot 8],none⟩,⟨none,none,.store 9,[.slot 2,.slot 9],none⟩])
 (.ret))
def F_x6 : IFun := ⟨10,[.cell 2 9 true],b_x6,3,0,nofn⟩
theorem c_event_Of : cFun Tryz.prog [1048577,1048578] 0 f_x6 = some F_x6 := by kernel_rfl
def L0_x43 : ICode :=
 .seq
 (.region [
 ⟨some 9,none,.bin .lss,[.slot 8,.slot 7],none⟩])
 (.seq
 (.cond (.slot 9)
 (.skip)
 (.exit 0))
 (.seq
 (.block 1
 (.seq
 (.region [
 ⟨some 10,none,.id,[.slot 8],none⟩,⟨some 5,none,.id,[.slot 10],none⟩])
 (.seq
 (.region [
 ⟨some 11,none,.id,[.slot 1],none⟩,⟨some 12,none,.id,[.slot 0],none⟩,⟨some 13,none,.id,[.slot 5],none⟩,⟨some 14,none,.ixaddr 5,[.slot 12,.slot 13],none⟩,⟨some 15,none,.load 5 true,[.slot 14],none⟩,⟨some 16,none,.callv,[.slot 11,.slot 15],none⟩])
 (.cond (.slot 16)
 (.seq
 (.region [
 ⟨some 17,none,.id,[.slot 5],none⟩,⟨some 4,none,.id,[.slot 17],none⟩])
 (.ret))
 (.skip)))))
 (.region [
 ⟨some 18,none,.bin .add,[.slot 8,.val (.int .i64 1)],none⟩,⟨some 8,none,.id,[.slot 18],none⟩])))
def b_x43 : ICode :=
 .seq
 (.region [
 ⟨some 4,none,.id,[.val (.int .i64 0)],none⟩])
 (.seq
 (.seq
 (.region [
 ⟨some 6,none,.id,[.slot 0],none⟩,⟨some 7,none,.lensl,[.slot 6],none⟩,⟨some 8,none,.id,[.val (.int .i64 0)],none⟩])
 (.block 0
 (.loop L0_x43)))
 (.seq
 (.region [
 ⟨some 4,none,.id,[.val (.int .i64 (-1))],none⟩])
 (.ret)))
def F_x43 : IFun := ⟨19,[.slot 4],b_x43,3,0,nofn⟩
theorem c_slices_IndexFuncstore_Entrystore_Entry : cFun Tryz.prog [] 0 f_x43 = some F_x43 := by kernel_rfl
def b_x85 : ICode :=
 .seq
 (.region [
 ⟨some 1,none,.boxL,[.slot 0],none⟩,⟨some 2,none,.id,[.val (.bool false)],none⟩])
 (.seq
 (.region [
 ⟨some 3,none,.faddr 0,[.slot 1],none⟩,⟨some 4,none,.load 1 false,[.slot 3],none⟩,⟨some 5,none,.bin .geq,[.slot 4,.val (.int .i64 0)],none⟩,⟨some 6,none,.id,[.slot 5],none⟩,⟨some 7,(some (6,true)),.faddr 0,[.slot 1],none⟩,⟨some 8,(some (6,true)),.load 1 false,[.slot 7],none⟩,⟨some 9,(some (6,true)),.bin .lss,[.slot 8,.val (.int .i64 16)],none⟩,⟨some 10,none,.pick,[.slot 6,.slot 9,.val (.bool false)],none⟩,⟨some 11,none,.id,[.slot 10],none⟩,⟨some 12,(some (11,true)),.faddr 1,[.slot 1],none⟩,⟨some 13,(some (11,true)),.load 1 false,[.slot 12],none⟩,⟨some 14,(some (11,true)),.bin .geq,[.slot 13,.val (.int .i64 1)],none⟩,⟨some 15,none,.pick,[.slot 11,.slot 14,.val (.bool false)],none⟩,⟨some 16,none,.id,[.slot 15],none⟩,⟨some 17,(some (16,true)),.faddr 1,[.slot 1],none⟩,⟨some 18,(some (16,true)),.load 1 false,[.slot 17],none⟩,⟨some 19,(some (16,true)),.bin .leq,[.slot 18,.val (.int .i64 1048576)],none⟩,⟨some 20,none,.pick,[.slot 16,.slot 19,.val (.bool false)],none⟩,⟨some 2,none,.id,[.slot 20],none⟩])
 (.ret))
def F_x85 : IFun := ⟨21,[.slot 2],b_x85,3,0,nofn⟩
theorem c_vector_Dot : cFun Tryz.prog [1048577] 0 f_x85 = some F_x85 := by kernel_rfl
def L0_x83 : ICode :=
 .seq
 (.region [
 ⟨some 8,none,.bin .lss,[.slot 7,.slot 6],none⟩])
 (.seq
 (.cond (.slot 8)
 (.skip)
 (.exit 0))
 (.seq
 (.block 1
 (.seq
 (.region [
 ⟨some 9,none,.ixaddr 1,[.slot 5,.slot 7],none⟩,⟨some 10,none,.load 1 false,[.slot 9],none⟩,⟨some 4,none,.id,[.slot 10],none⟩])
 (.seq
 (.region [
 ⟨some 11,none,.id,[.slot 4],none⟩,⟨some 12,none,.call f_x78,[.slot 11],none⟩,⟨some 13,none,.un .not,[.slot 12],none⟩])
 (.cond (.slot 13)
 (.seq
 (.region [
 ⟨some 2,none,.id,[.val (.bool false)],none⟩])
 (.ret))
 (.skip)))))
 (.region [
 ⟨some 14,none,.bin .add,[.slot 7,.val (.int .i64 1)],none⟩,⟨some 7,none,.id,[.slot 14],none⟩])))
def b_x83 : ICode :=
 .seq
 (.region [
 ⟨some 2,none,.id,[.val (.bool false)],none⟩])
 (.seq
 (.seq
 (.region [
 ⟨some 5,none,.id,[.slot 0],none⟩,⟨some 6,none,.lensl,[.slot 5],none⟩,⟨some 7,none,.id,[.val (.int .i64 0)],none⟩])
 (.block 0
 (.loop L0_x83)))
 (.seq
 (.region [
 ⟨some 2,none,.id,[.val (.bool true)],none⟩])
 (.ret)))
def F_x83 : IFun := ⟨15,[.slot 2],b_x83,3,0,nofn⟩
theorem c_value_names : cFun Tryz.prog [] 0 f_x83 = some F_x83 := by kernel_rfl
def b_x80 : ICode :=
 .seq
 (.region [
 ⟨some 2,none,.id,[.val (.bool false)],none⟩])
 (.seq
 (.region [
 ⟨some 3,none,.id,[.slot 0],none⟩,⟨some 4,none,.call f_x73,[.slot 3,.val (.str ⟨#[]⟩)],none⟩,⟨some 5,none,.bin .eql,[.slot 4,.val (.str ⟨#[]⟩)],none⟩,⟨some 2,none,.id,[.slot 5],none⟩])
 (.ret))
def F_x80 : IFun := ⟨6,[.slot 2],b_x80,3,0,nofn⟩
theorem c_value_empty : cFun Tryz.prog [2097263] 0 f_x80 = some F_x80 := by kernel_rfl
def b_x53 : ICode :=
 .seq
 (.region [
 ⟨some 2,none,.boxH 28,[.slot 0],none⟩,⟨some 3,none,.boxL,[.slot 1],none⟩,⟨some 4,none,.id,[.val (.bool false)],none⟩])
 (.seq
 (.region [
 ⟨some 6,none,.mkfunc f_x54 0,[.slot 2],none⟩,⟨some 5,none,.id,[.slot 6],none⟩])
 (.seq
 (.region [
 ⟨some 7,none,.faddr 5,[.slot 3],none⟩,⟨some 8,none,.load 1 false,[.slot 7],(some (.loc 3))⟩,⟨some 9,none,.lensl,[.slot 8],none⟩,⟨some 10,none,.bin .gtr,[.slot 9,.val (.int .i64 0)],none⟩,⟨some 11,none,.id,[.slot 10],none⟩,⟨some 12,(some (11,true)),.call f_x62,[],none⟩,⟨some 13,(some (11,true)),.load 6 true,[.slot 3],(some (.loc 3))⟩,⟨some 14,(some (11,true)),.call f_x69,[.slot 12,.slot 13],none⟩,⟨some 15,(some (11,true)),.bin .eql,[.slot 14,.val (.int .i64 0)],none⟩,⟨some 16,none,.pick,[.slot 11,.slot 15,.val (.bool false)],none⟩,⟨some 17,none,.id,[.slot 16],none⟩,⟨some 18,(some (17,true)),.faddr 5,[.slot 3],none⟩,⟨some 19,(some (17,true)),.load 1 false,[.slot 18],(some (.loc 3))⟩,⟨some 20,(some (17,true)),.id,[.slot 5],none⟩,⟨some 21,(some (17,true)),.call f_x38,[.slot 19,.slot 20],none⟩,⟨some 22,(some (17,true)),.un .not,[.slot 21],none⟩,⟨some 23,none,.pick,[.slot 17,.slot 22,.val (.bool false)],none⟩,⟨some 4,none,.id,[.slot 23],none⟩])
 (.ret)))
def F_x53 : IFun := ⟨24,[.slot 4],b_x53,3,1,nofn⟩
theorem c_snap_item : cFun Tryz.prog [2,1048579] 1 f_x53 = some F_x53 := by kernel_rfl
def b_x34 : ICode :=
 .seq
 (.region [
 ⟨some 4,none,.id,[.val .nilsl],none⟩])
 (.seq
 (.region [
 ⟨some 5,none,.id,[.slot 0],none⟩,⟨some 6,none,.id,[.slot 1],none⟩,⟨some 7,none,.lenstr,[.slot 6],none⟩,⟨some 8,none,.call f_x26,[.slot 5,.slot 7],none⟩,⟨some 9,none,.id,[.slot 1],none⟩,⟨some 10,none,.appendS 5,[.slot 8,.slot 9],none⟩,⟨some 4,none,.id,[.slot 10],none⟩])
 (.ret))
def F_x34 : IFun := ⟨11,[.slot 4],b_x34,3,0,nofn⟩
theorem c_num_Text : cFun Tryz.prog [] 0 f_x34 = some F_x34 := by kernel_rfl
def b_x56 : ICode :=
 .seq
 (.region [
 ⟨some 3,none,.boxL,[.slot 1],none⟩,⟨some 4,none,.id,[.val .nilsl],none⟩])
 (.seq
 (.region [
 ⟨some 5,none,.id,[.slot 0],none⟩,⟨some 6,none,.faddr 0,[.slot 3],none⟩,⟨some 7,none,.load 1 false,[.slot 6],(some (.loc 3))⟩,⟨some 8,none,.call f_x26,[.slot 5,.slot 7],none⟩,⟨some 9,none,.faddr 1,[.slot 3],none⟩,⟨some 10,none,.load 1 false,[.slot 9],(some (.loc 3))⟩,⟨some 11,none,.call f_x33,[.slot 8,.slot 10],none⟩,⟨some 12,none,.faddr 2,[.slot 3],none⟩,⟨some 13,none,.load 1 false,[.slot 12],(some (.loc 3))⟩,⟨some 14,none,.call f_x34,[.slot 11,.slot 13],none⟩,⟨some 4,none,.id,[.slot 14],none⟩])
 (.ret))
def F_x56 : IFun := ⟨15,[.slot 4],b_x56,3,0,nofn⟩
theorem c_snap_putValue : cFun Tryz.prog [1048579] 0 f_x56 = some F_x56 := by kernel_rfl
def b_x33 : ICode :=
 .seq
 (.region [
 ⟨some 4,none,.id,[.val .nilsl],none⟩])
 (.seq
 (.block 0
 (.seq
 (.region [
 ⟨some 6,none,.id,[.slot 1],none⟩,⟨some 7,none,.bin .lss,[.slot 6,.val (.int .i64 (-1152921504606846976))],none⟩,⟨some 8,none,.id,[.slot 7],none⟩,⟨some 9,(some (8,false)),.id,[.slot 1],none⟩,⟨some 10,(some (8,false)),.bin .gtr,[.slot 9,.val (.int .i64 1152921504606846976)],none⟩,⟨some 11,none,.pick,[.slot 8,.val (.bool true),.slot 10],none⟩,⟨some 5,none,.id,[.slot 11],none⟩])
 (.cond (.slot 5)
 (.seq
 (.region [
 ⟨some 12,none,.id,[.slot 0],none⟩,⟨some 4,none,.id,[.slot 12],none⟩])
 (.ret))
 (.seq
 (.region [
 ⟨some 14,none,.id,[.slot 1],none⟩,⟨some 15,none,.bin .lss,[.slot 14,.val (.int .i64 0)],none⟩,⟨some 13,none,.id,[.slot 15],none⟩])
 (.cond (.slot 13)
 (.seq
 (.region [
 ⟨some 16,none,.id,[.slot 0],none⟩,⟨some 17,none,.id,[.slot 1],none⟩,⟨some 18,none,.bin .mul,[.val (.int .i64 (-2)),.slot 17],none⟩,⟨some 19,none,.bin .sub,[.slot 18,.val (.int .i64 1)],none⟩,⟨some 20,none,.call f_x26,[.slot 16,.slot 19],none⟩,⟨some 4,none,.id,[.slot 20],none⟩])
 (.ret))
 (.skip))))))
 (.seq
 (.region [
 ⟨some 21,none,.id,[.slot 0],none⟩,⟨some 22,none,.id,[.slot 1],none⟩,⟨some 23,none,.bin .mul,[.val (.int .i64 2),.slot 22],none⟩,⟨some 24,none,.call f_x26,[.slot 21,.slot 23],none⟩,⟨some 4,none,.id,[.slot 24],none⟩])
 (.ret)))
def F_x33 : IFun := ⟨25,[.slot 4],b_x33,3,0,nofn⟩
theorem c_num_Signed : cFun Tryz.prog [] 0 f_x33 = some F_x33 := by kernel_rfl
def L0_x35 : ICode :=
 .seq
 (.region [
 ⟨some 14,none,.bin .lss,[.slot 13,.slot 12],none⟩])
 (.seq
 (.cond (.slot 14)
 (.skip)
 (.exit 0))
 (.seq
 (.block 1
 (.seq
 (.region [
 ⟨some 15,none,.id,[.slot 13],none⟩,⟨some 16,none,.ixaddr 1,[.slot 11,.slot 13],none⟩,⟨some 17,none,.load 1 false,[.slot 16],none⟩,⟨some 5,none,.id,[.slot 15],none⟩,⟨some 6,none,.id,[.slot 17],none⟩])
 (.seq
 (.region [
 ⟨some 18,none,.id,[.slot 4],none⟩,⟨some 19,none,.id,[.slot 6],none⟩,⟨some 20,none,.bin .and,[.slot 19,.val (.int .u8 127)],none⟩,⟨some 21,none,.conv .u64,[.slot 20],none⟩,⟨some 22,none,.id,[.slot 5],none⟩,⟨some 23,none,.bin .mul,[.val (.int .i64 7),.slot 22],none⟩,⟨some 24,none,.conv .u64,[.slot 23],none⟩,⟨some 25,none,.bin .shl,[.slot 21,.slot 24],none⟩,⟨some 26,none,.bin .or,[.slot 18,.slot 25],none⟩,⟨some 4,none,.id,[.slot 26],none⟩])
 (.seq
 (.region [
 ⟨some 27,none,.id,[.slot 6],none⟩,⟨some 28,none,.bin .lss,[.slot 27,.val (.int .u8 128)],none⟩])
 (.cond (.slot 28)
 (.seq
 (.seq
 (.region [
 ⟨some 29,none,.id,[.slot 6],none⟩,⟨some 30,none,.bin .eql,[.slot 29,.val (.int .u8 0)],none⟩,⟨some 31,none,.id,[.slot 30],none⟩,⟨some 32,(some (31,true)),.id,[.slot 5],none⟩,⟨some 33,(some (31,true)),.bin .gtr,[.slot 32,.val (.int .i64 0)],none⟩,⟨some 34,none,.pick,[.slot 31,.slot 33,.val (.bool false)],none⟩,⟨some 35,none,.id,[.slot 34],none⟩,⟨some 36,(some (35,false)),.id,[.slot 4],none⟩,⟨some 37,(some (35,false)),.bin .gtr,[.slot 36,.val (.int .u64 4611686018427387903)],none⟩,⟨some 38,none,.pick,[.slot 35,.val (.bool true),.slot 37],none⟩])
 (.cond (.slot 38)
 (.seq
 (.region [
 ⟨some 2,none,.id,[.val (.int .i64 0)],none⟩,⟨some 3,none,.id,[.val (.int .i64 0)],none⟩])
 (.ret))
 (.skip)))
 (.seq
 (.region [
 ⟨some 39,none,.id,[.slot 4],none⟩,⟨some 40,none,.conv .i64,[.slot 39],none⟩,⟨some 41,none,.id,[.slot 5],none⟩,⟨some 42,none,.bin .add,[.slot 41,.val (.int .i64 1)],none⟩,⟨some 2,none,.id,[.slot 40],none⟩,⟨some 3,none,.id,[.slot 42],none⟩])
 (.ret)))
 (.skip))))))
 (.region [
 ⟨some 43,none,.bin .add,[.slot 13,.val (.int .i64 1)],none⟩,⟨some 13,none,.id,[.slot 43],none⟩])))
def b_x35 : ICode :=
 .seq
 (.region [
 ⟨some 2,none,.id,[.val (.int .i64 0)],none⟩,⟨some 3,none,.id,[.val (.int .i64 0)],none⟩])
 (.seq
 (.region [
 ⟨some 4,none,.id,[.val (.int .u64 0)],none⟩])
 (.seq
 (.seq
 (.region [
 ⟨some 7,none,.id,[.slot 0],none⟩,⟨some 8,none,.id,[.slot 0],none⟩,⟨some 9,none,.lensl,[.slot 8],none⟩,⟨some 10,none,.minmax false,[.slot 9,.val (.int .i64 9)],none⟩,⟨some 11,none,.slsl 1 false true false,[.slot 7,.slot 10],none⟩,⟨some 12,none,.lensl,[.slot 11],none⟩,⟨some 13,none,.id,[.val (.int .i64 0)],none⟩])
 (.block 0
 (.loop L0_x35)))
 (.seq
 (.region [
 ⟨some 2,none,.id,[.val (.int .i64 0)],none⟩,⟨some 3,none,.id,[.val (.int .i64 0)],none⟩])
 (.ret))))
def F_x35 : IFun := ⟨44,[.slot 2,.slot 3],b_x35,3,0,nofn⟩
theorem c_num_take : cFun Tryz.prog [] 0 f_x35 = some F_x35 := by kernel_rfl
def b_x32 : ICode :=
 .seq
 (.region [
 ⟨some 4,none,.id,[.val (.str ⟨#[]⟩)],none⟩])
 (.seq
 (.region [
 ⟨some 7,none,.id,[.slot 0],none⟩,⟨some 8,none,.id,[.slot 1],none⟩,⟨some 9,none,.call f_x30,[.slot 7,.slot 8],none⟩,⟨some 5,none,.id,[.slot 9],none⟩])
 (.seq
 (.seq
 (.region [
 ⟨some 10,none,.id,[.slot 0],none⟩,⟨some 11,none,.call f_x29,[.slot 10],none⟩])
 (.cond (.slot 11)
 (.seq
 (.region [
 ⟨some 4,none,.id,[.val (.str ⟨#[]⟩)],none⟩])
 (.ret))
 (.skip)))
 (.seq
 (.seq
 (.region [
 ⟨some 12,none,.id,[.slot 5],none⟩,⟨some 13,none,.id,[.slot 0],none⟩,⟨some 14,none,.nilchk,[.slot 13],none⟩,⟨some 15,none,.faddr 0,[.slot 14],none⟩,⟨some 16,none,.load 1 false,[.slot 15],none⟩,⟨some 17,none,.lensl,[.slot 16],none⟩,⟨some 18,none,.bin .gtr,[.slot 12,.slot 17],none⟩])
 (.cond (.slot 18)
 (.seq
 (.region [
 ⟨some 19,none,.id,[.slot 0],none⟩,⟨some 20,none,.nilchk,[.slot 19],none⟩,⟨some 21,none,.faddr 1,[.slot 20],none⟩,⟨none,none,.store 1,[.slot 21,.val (.bool true)],none⟩])
 (.seq
 (.region [
 ⟨some 4,none,.id,[.val (.str ⟨#[]⟩)],none⟩])
 (.ret)))
 (.skip)))
 (.seq
 (.region [
 ⟨some 22,none,.id,[.slot 0],none⟩,⟨some 23,none,.nilchk,[.slot 22],none⟩,⟨some 24,none,.faddr 0,[.slot 23],none⟩,⟨some 25,none,.load 1 false,[.slot 24],none⟩,⟨some 26,none,.id,[.slot 5],none⟩,⟨some 27,none,.slsl 1 false true false,[.slot 25,.slot 26],none⟩,⟨some 28,none,.b2s,[.slot 27],none⟩,⟨some 6,none,.id,[.slot 28],none⟩])
 (.seq
 (.region [
 ⟨some 29,none,.id,[.slot 0],none⟩,⟨some 30,none,.id,[.slot 0],none⟩,⟨some 31,none,.nilchk,[.slot 30],none⟩,⟨some 32,none,.faddr 0,[.slot 31],none⟩,⟨some 33,none,.load 1 false,[.slot 32],none⟩,⟨some 34,none,.id,[.slot 5],none⟩,⟨some 35,none,.slsl 1 true false false,[.slot 33,.slot 34],none⟩,⟨some 36,none,.nilchk,[.slot 29],none⟩,⟨some 37,none,.faddr 0,[.slot 36],none⟩,⟨none,none,.store 1,[.slot 37,.slot 35],none⟩])
 (.seq
 (.region [
 ⟨some 38,none,.id,[.slot 6],none⟩,⟨some 4,none,.id,[.slot 38],none⟩])
 (.ret)))))))
def F_x32 : IFun := ⟨39,[.slot 4],b_x32,3,0,nofn⟩
theorem c_num_Reader_Text : cFun Tryz.prog [2097213] 0 f_x32 = some F_x32 := by kernel_rfl
def L0_x60 : ICode :=
 .seq
 (.region [
 ⟨some 9,none,.bin .lss,[.slot 8,.slot 7],none⟩])
 (.seq
 (.cond (.slot 9)
 (.skip)
 (.exit 0))
 (.seq
 (.block 1
 (.seq
 (.region [
 ⟨some 10,none,.id,[.slot 5],none⟩,⟨some 11,none,.id,[.slot 1],none⟩,⟨some 12,none,.id,[.slot 0],none⟩,⟨some 13,none,.callv,[.slot 11,.slot 12],none⟩,⟨some 14,none,.buildSl 5 1 (.agg [.int .i64 0,.int .i64 0,.int .i64 0,.int .i64 0,.str ⟨#[]⟩]) [0],[.slot 13],none⟩,⟨some 15,none,.append 56 5 48,[.slot 10,.slot 14],none⟩,⟨some 5,none,.id,[.slot 15],none⟩])
 (.seq
 (.region [
 ⟨some 16,none,.id,[.slot 0],none⟩,⟨some 17,none,.call f_x29,[.slot 16],none⟩])
 (.cond (.slot 17)
 (.seq
 (.region [
 ⟨some 4,none,.id,[.val .nilsl],none⟩])
 (.ret))
 (.skip)))))
 (.region [
 ⟨some 18,none,.bin .add,[.slot 8,.val (.int .i64 1)],none⟩,⟨some 8,none,.id,[.slot 18],none⟩])))
def b_x60 : ICode :=
 .seq
 (.region [
 ⟨some 4,none,.id,[.val .nilsl],none⟩])
 (.seq
 (.region [
 ⟨some 5,none,.id,[.val .nilsl],none⟩])
 (.seq
 (.seq
 (.region [
 ⟨some 6,none,.id,[.slot 0],none⟩,⟨some 7,none,.call f_x30,[.slot 6,.val (.int .i64 100000)],none⟩,⟨some 8,none,.id,[.val (.int .i64 0)],none⟩])
 (.block 0
 (.loop L0_x60)))
 (.seq
 (.region [
 ⟨some 19,none,.id,[.slot 5],none⟩,⟨some 4,none,.id,[.slot 19],none⟩])
 (.ret))))
def F_x60 : IFun := ⟨20,[.slot 4],b_x60,3,0,nofn⟩
theorem c_snap_rowsstore_Entry : cFun Tryz.prog [2097213] 0 f_x60 = some F_x60 := by kernel_rfl
def b_x57 : ICode :=
 .seq
 (.region [
 ⟨some 2,none,.allocL [.int .i64 0,.int .i64 0,.int .i64 0,.int .i64 0,.str ⟨#[]⟩],[],none⟩])
 (.seq
 (.region [
 ⟨some 3,none,.id,[.slot 0],none⟩,⟨some 4,none,.call f_x30,[.slot 3,.val (.int .i64 4611686018427387903)],none⟩,⟨some 5,none,.id,[.slot 0],none⟩,⟨some 6,none,.call f_x30,[.slot 5,.val (.int .i64 4611686018427387903)],none⟩,⟨some 7,none,.faddr 0,[.slot 2],none⟩,⟨some 8,none,.faddr 0,[.slot 7],none⟩,⟨none,none,.store 1,[.slot 8,.slot 4],none⟩,⟨some 9,none,.faddr 0,[.slot 2],none⟩,⟨some 10,none,.faddr 1,[.slot 9],none⟩,⟨none,none,.store 1,[.slot 10,.slot 6],none⟩])
 (.seq
 (.region [
 ⟨some 11,none,.id,[.slot 0],none⟩,⟨some 12,none,.call f_x30,[.slot 11,.val (.int .i64 4611686018427387903)],none⟩,⟨some 13,none,.faddr 2,[.slot 2],none⟩,⟨some 14,none,.faddr 0,[.slot 13],none⟩,⟨none,none,.store 1,[.slot 14,.slot 12],none⟩])
 (.seq
 (.region [
 ⟨some 15,none,.id,[.slot 0],none⟩,⟨some 16,none,.call f_x31,[.slot 15],none⟩,⟨some 17,none,.faddr 2,[.slot 2],none⟩,⟨some 18,none,.faddr 1,[.slot 17],none⟩,⟨none,none,.store 1,[.slot 18,.slot 16],none⟩])
 (.seq
 (.region [
 ⟨some 19,none,.id,[.slot 0],none⟩,⟨some 20,none,.call f_x32,[.slot 19,.val (.int .i64 1048576)],none⟩,⟨some 21,none,.faddr 2,[.slot 2],none⟩,⟨some 22,none,.faddr 2,[.slot 21],none⟩,⟨none,none,.store 1,[.slot 22,.slot 20],none⟩])
 (.seq
 (.region [
 ⟨some 23,none,.load 5 true,[.slot 2],none⟩,⟨none,none,.store 5,[.slot 2,.slot 23],none⟩])
 (.ret))))))
def F_x57 : IFun := ⟨24,[.cell 2 5 true],b_x57,3,0,nofn⟩
theorem c_snap_readEntry : cFun Tryz.prog [1048578] 0 f_x57 = some F_x57 := by kernel_rfl
def L0_x12 : ICode :=
 .seq
 (.region [
 ⟨some 17,none,.bin .lss,[.slot 16,.slot 15],none⟩])
 (.seq
 (.cond (.slot 17)
 (.skip)
 (.exit 0))
 (.seq
 (.block 1
 (.seq
 (.region [
 ⟨some 18,none,.ixaddr 1,[.slot 14,.slot 16],none⟩,⟨some 19,none,.load 1 false,[.slot 18],none⟩,⟨some 4,none,.id,[.slot 19],none⟩])
 (.region [
 ⟨some 20,none,.id,[.slot 4],none⟩,⟨some 21,none,.id,[.slot 0],none⟩,⟨some 22,none,.call f_x30,[.slot 21,.val (.int .i64 4611686018427387903)],none⟩,⟨some 23,none,.nilchk,[.slot 20],none⟩,⟨none,none,.store 1,[.slot 23,.slot 22],none⟩])))
 (.region [
 ⟨some 24,none,.bin .add,[.slot 16,.val (.int .i64 1)],none⟩,⟨some 16,none,.id,[.slot 24],none⟩])))
def L1_x12 : ICode :=
 .seq
 (.region [
 ⟨some 26,none,.bin .lss,[.slot 25,.val (.int .i64 16)],none⟩])
 (.seq
 (.cond (.slot 26)
 (.skip)
 (.exit 2))
 (.seq
 (.block 3
 (.seq
 (.region [
 ⟨some 27,none,.id,[.slot 25],none⟩,⟨some 5,none,.id,[.slot 27],none⟩])
 (.region [
 ⟨some 28,none,.id,[.slot 5],none⟩,⟨some 29,none,.id,[.slot 0],none⟩,⟨some 30,none,.call f_x30,[.slot 29,.val (.int .i64 4611686018427387903)],none⟩,⟨some 31,none,.faddr 2,[.slot 2],none⟩,⟨some 32,none,.ixaddrA 16 1,[.slot 31,.slot 28],none⟩,⟨none,none,.store 1,[.slot 32,.slot 30],none⟩])))
 (.region [
 ⟨some 33,none,.bin .add,[.slot 25,.val (.int .i64 1)],none⟩,⟨some 25,none,.id,[.slot 33],none⟩])))
def L2_x12 : ICode :=
 .seq
 (.region [
 ⟨some 40,none,.bin .lss,[.slot 39,.slot 38],none⟩])
 (.seq
 (.cond (.slot 40)
 (.skip)
 (.exit 4))
 (.seq
 (.block 5
 (.seq
 (.region [
 ⟨some 41,none,.ixaddr 1,[.slot 37,.slot 39],none⟩,⟨some 42,none,.load 1 false,[.slot 41],none⟩,⟨some 7,none,.id,[.slot 42],none⟩])
 (.region [
 ⟨some 43,none,.id,[.slot 7],none⟩,⟨some 44,none,.id,[.slot 0],none⟩,⟨some 45,none,.call f_x30,[.slot 44,.val (.int .i64 4611686018427387903)],none⟩,⟨some 46,none,.nilchk,[.slot 43],none⟩,⟨none,none,.store 1,[.slot 46,.slot 45],none⟩])))
 (.region [
 ⟨some 47,none,.bin .add,[.slot 39,.val (.int .i64 1)],none⟩,⟨some 39,none,.id,[.slot 47],none⟩])))
def L3_x12 : ICode :=
 .seq
 (.region [
 ⟨some 59,none,.bin .lss,[.slot 58,.slot 57],none⟩])
 (.seq
 (.cond (.slot 59)
 (.skip)
 (.exit 6))
 (.seq
 (.block 7
 (.seq
 (.region [
 ⟨some 60,none,.ixaddr 1,[.slot 56,.slot 58],none⟩,⟨some 61,none,.load 1 false,[.slot 60],none⟩,⟨some 9,none,.id,[.slot 61],none⟩])
 (.region [
 ⟨some 62,none,.id,[.slot 9],none⟩,⟨some 63,none,.id,[.slot 0],none⟩,⟨some 64,none,.call f_x32,[.slot 63,.val (.int .i64 1048576)],none⟩,⟨some 65,none,.nilchk,[.slot 62],none⟩,⟨none,none,.store 1,[.slot 65,.slot 64],none⟩])))
 (.region [
 ⟨some 66,none,.bin .add,[.slot 58,.val (.int .i64 1)],none⟩,⟨some 58,none,.id,[.slot 66],none⟩])))
def b_x12 : ICode :=
 .seq
 (.region [
 ⟨some 2,none,.allocH 38 [.int .i64 0,.int .i64 0,.int .i64 0,.int .i64 0,.int .i64 0,.int .i64 0,.int .i64 0,.int .i64 0,.int .i64 0,.int .i64 0,.int .i64 0,.int .i64 0,.int .i64 0,.int .i64 0,.int .i64 0,.int .i64 0,.int .i64 0,.int .i64 0,.int .i64 0,.int .i64 0,.str ⟨#[]⟩,.str ⟨#[]⟩,.str ⟨#[]⟩,.str ⟨#[]⟩,.int .i64 0,.int .i64 0,.str ⟨#[]⟩],[],none⟩])
 (.seq
 (.seq
 (.region [
 ⟨some 10,none,.faddr 0,[.slot 2],none⟩,⟨some 11,none,.faddr 0,[.slot 10],none⟩,⟨some 12,none,.faddr 0,[.slot 2],none⟩,⟨some 13,none,.faddr 1,[.slot 12],none⟩,⟨some 14,none,.buildSl 1 2 .nilptr [0,1],[.slot 11,.slot 13],none⟩,⟨some 15,none,.lensl,[.slot 14],none⟩,⟨some 16,none,.id,[.val (.int .i64 0)],none⟩])
 (.block 0
 (.loop L0_x12)))
 (.seq
 (.seq
 (.region [
 ⟨some 25,none,.id,[.val (.int .i64 0)],none⟩])
 (.block 2
 (.loop L1_x12)))
 (.seq
 (.seq
 (.region [
 ⟨some 34,none,.faddr 18,[.slot 2],none⟩,⟨some 35,none,.faddr 19,[.slot 2],none⟩,⟨some 36,none,.faddr 0,[.slot 35],none⟩,⟨some 37,none,.buildSl 1 2 .nilptr [0,1],[.slot 34,.slot 36],none⟩,⟨some 38,none,.lensl,[.slot 37],none⟩,⟨some 39,none,.id,[.val (.int .i64 0)],none⟩])
 (.block 4
 (.loop L2_x12)))
 (.seq
 (.seq
 (.region [
 ⟨some 48,none,.faddr 19,[.slot 2],none⟩,⟨some 49,none,.faddr 1,[.slot 48],none⟩,⟨some 50,none,.faddr 19,[.slot 2],none⟩,⟨some 51,none,.faddr 2,[.slot 50],none⟩,⟨some 52,none,.faddr 19,[.slot 2],none⟩,⟨some 53,none,.faddr 3,[.slot 52],none⟩,⟨some 54,none,.faddr 19,[.slot 2],none⟩,⟨some 55,none,.faddr 4,[.slot 54],none⟩,⟨some 56,none,.buildSl 1 4 .nilptr [0,1,2,3],[.slot 49,.slot 51,.slot 53,.slot 55],none⟩,⟨some 57,none,.lensl,[.slot 56],none⟩,⟨some 58,none,.id,[.val (.int .i64 0)],none⟩])
 (.block 6
 (.loop L3_x12)))
 (.seq
 (.region [
 ⟨some 67,none,.id,[.slot 0],none⟩,⟨some 68,none,.call f_x30,[.slot 67,.val (.int .i64 4611686018427387903)],none⟩,⟨some 69,none,.faddr 24,[.slot 2],none⟩,⟨some 70,none,.faddr 0,[.slot 69],none⟩,⟨none,none,.store 1,[.slot 70,.slot 68],none⟩])
 (.seq
 (.region [
 ⟨some 71,none,.id,[.slot 0],none⟩,⟨some 72,none,.call f_x31,[.slot 71],none⟩,⟨some 73,none,.faddr 24,[.slot 2],none⟩,⟨some 74,none,.faddr 1,[.slot 73],none⟩,⟨none,none,.store 1,[.slot 74,.slot 72],none⟩])
 (.seq
 (.region [
 ⟨some 75,none,.id,[.slot 0],none⟩,⟨some 76,none,.call f_x32,[.slot 75,.val (.int .i64 1048576)],none⟩,⟨some 77,none,.faddr 24,[.slot 2],none⟩,⟨some 78,none,.faddr 2,[.slot 77],none⟩,⟨none,none,.store 1,[.slot 78,.slot 76],none⟩])
 (.seq
 (.region [
 ⟨some 79,none,.load 27 true,[.slot 2],none⟩,⟨none,none,.store 27,[.slot 2,.slot 79],none⟩])
 (.ret)))))))))
def F_x12 : IFun := ⟨80,[.cell 2 27 true],b_x12,3,0,nofn⟩
theorem c_event_next : cFun Tryz.prog [2] 0 f_x12 = some F_x12 := by kernel_rfl
def b_x3 : ICode :=
 .seq
 (.region [
 ⟨some 2,none,.id,[.val (.bool false)],none⟩])
 (.seq
 (.region [
 ⟨some 3,none,.id,[.slot 0],none⟩,⟨some 4,none,.id,[.slot 0],none⟩,⟨some 5,none,.bin .neq,[.slot 3,.slot 4],none⟩,⟨some 2,none,.id,[.slot 5],none⟩])
 (.ret))
def F_x3 : IFun := ⟨6,[.slot 2],b_x3,3,0,nofn⟩
theorem c_cmp_isNaNint : cFun Tryz.prog [] 0 f_x3 = some F_x3 := by kernel_rfl
def b_x4 : ICode :=
 .seq
 (.region [
 ⟨some 2,none,.id,[.val (.bool false)],none⟩])
 (.seq
 (.region [
 ⟨some 3,none,.id,[.slot 0],none⟩,⟨some 4,none,.id,[.slot 0],none⟩,⟨some 5,none,.bin .neq,[.slot 3,.slot 4],none⟩,⟨some 2,none,.id,[.slot 5],none⟩])
 (.ret))
def F_x4 : IFun := ⟨6,[.slot 2],b_x4,3,0,nofn⟩
theorem c_cmp_isNaNstring : cFun Tryz.prog [] 0 f_x4 = some F_x4 := by kernel_rfl
def b_x16 : ICode :=
 .seq
 (.region [
 ⟨some 1,none,.boxL,[.slot 0],none⟩,⟨some 2,none,.id,[.val (.bool false)],none⟩])
 (.seq
 (.region [
 ⟨some 7,none,.faddr 1,[.slot 1],none⟩,⟨some 8,none,.load 1 false,[.slot 7],(some (.loc 1))⟩,⟨some 9,none,.call f_x18,[.slot 8],none⟩,⟨some 10,none,.faddr 2,[.slot 1],none⟩,⟨some 11,none,.load 1 false,[.slot 10],(some (.loc 1))⟩,⟨some 12,none,.call f_x18,[.slot 11],none⟩,⟨some 13,none,.faddr 3,[.slot 1],none⟩,⟨some 14,none,.load 1 false,[.slot 13],(some (.loc 1))⟩,⟨some 15,none,.call f_x18,[.slot 14],none⟩,⟨some 16,none,.faddr 4,[.slot 1],none⟩,⟨some 17,none,.load 1 false,[.slot 16],(some (.loc 1))⟩,⟨some 18,none,.call f_x18,[.slot 17],none⟩,⟨some 3,none,.id,[.slot 9],none⟩,⟨some 4,none,.id,[.slot 12],none⟩,⟨some 5,none,.id,[.slot 15],none⟩,⟨some 6,none,.id,[.slot 18],none⟩])
 (.seq
 (.seq
 (.region [
 ⟨some 19,none,.faddr 0,[.slot 1],none⟩,⟨some 20,none,.load 1 false,[.slot 19],none⟩])
 (.block 0
 (.seq
 (.region [
 ⟨some 22,none,.bin .eql,[.slot 20,.val (.int .i64 1)],none⟩,⟨some 21,none,.id,[.slot 22],none⟩])
 (.cond (.slot 21)
 (.seq
 (.region [
 ⟨some 23,none,.id,[.slot 3],none⟩,⟨some 24,none,.id,[.slot 23],none⟩,⟨some 25,(some (24,true)),.faddr 2,[.slot 1],none⟩,⟨some 26,(some (24,true)),.load 1 false,[.slot 25],none⟩,⟨some 27,(some (24,true)),.bin .eql,[.slot 26,.val (.str ⟨#[]⟩)],none⟩,⟨some 28,none,.pick,[.slot 24,.slot 27,.val (.bool false)],none⟩,⟨some 29,none,.id,[.slot 28],none⟩,⟨some 30,(some (29,true)),.faddr 3,[.slot 1],none⟩,⟨some 31,(some (29,true)),.load 1 false,[.slot 30],none⟩,⟨some 32,(some (29,true)),.bin .eql,[.slot 31,.val (.str ⟨#[]⟩)],none⟩,⟨some 33,none,.pick,[.slot 29,.slot 32,.val (.bool false)],none⟩,⟨some 34,none,.id,[.slot 33],none⟩,⟨some 35,(some (34,true)),.faddr 4,[.slot 1],none⟩,⟨some 36,(some (34,true)),.load 1 false,[.slot 35],none⟩,⟨some 37,(some (34,true)),.bin .eql,[.slot 36,.val (.str ⟨#[]⟩)],none⟩,⟨some 38,none,.pick,[.slot 34,.slot 37,.val (.bool false)],none⟩,⟨some 2,none,.id,[.slot 38],none⟩])
 (.ret))
 (.seq
 (.seq
 (.region [
 ⟨some 40,none,.bin .eql,[.slot 20,.val (.int .i64 2)],none⟩,⟨some 39,none,.id,[.slot 40],none⟩])
 (.cond (.slot 39)
 (.skip)
 (.region [
 ⟨some 41,none,.bin .eql,[.slot 20,.val (.int .i64 4)],none⟩,⟨some 39,none,.id,[.slot 41],none⟩])))
 (.cond (.slot 39)
 (.seq
 (.region [
 ⟨some 42,none,.id,[.slot 3],none⟩,⟨some 43,none,.id,[.slot 42],none⟩,⟨some 44,(some (43,true)),.faddr 2,[.slot 1],none⟩,⟨some 45,(some (43,true)),.load 1 false,[.slot 44],none⟩,⟨some 46,(some (43,true)),.bin .eql,[.slot 45,.val (.str ⟨#[]⟩)],none⟩,⟨some 47,none,.pick,[.slot 43,.slot 46,.val (.bool false)],none⟩,⟨some 48,none,.id,[.slot 47],none⟩,⟨some 49,(some (48,true)),.faddr 3,[.slot 1],none⟩,⟨some 50,(some (48,true)),.load 1 false,[.slot 49],none⟩,⟨some 51,(some (48,true)),.bin .eql,[.slot 50,.val (.str ⟨#[]⟩)],none⟩,⟨some 52,none,.pick,[.slot 48,.slot 51,.val (.bool false)],none⟩,⟨some 53,none,.id,[.slot 52],none⟩,⟨some 54,(some (53,true)),.id,[.slot 6],none⟩,⟨some 55,none,.pick,[.slot 53,.slot 54,.val (.bool false)],none⟩,⟨some 2,none,.id,[.slot 55],none⟩])
 (.ret))
 (.seq
 (.region [
 ⟨some 57,none,.bin .eql,[.slot 20,.val (.int .i64 3)],none⟩,⟨some 56,none,.id,[.slot 57],none⟩])
 (.cond (.slot 56)
 (.seq
 (.region [
 ⟨some 58,none,.id,[.slot 3],none⟩,⟨some 59,none,.id,[.slot 58],none⟩,⟨some 60,(some (59,true)),.id,[.slot 4],none⟩,⟨some 61,none,.pick,[.slot 59,.slot 60,.val (.bool false)],none⟩,⟨some 62,none,.id,[.slot 61],none⟩,⟨some 63,(some (62,true)),.id,[.slot 5],none⟩,⟨some 64,none,.pick,[.slot 62,.slot 63,.val (.bool false)],none⟩,⟨some 65,none,.id,[.slot 64],none⟩,⟨some 66,(some (65,true)),.faddr 4,[.slot 1],none⟩,⟨some 67,(some (65,true)),.load 1 false,[.slot 66],none⟩,⟨some 68,(some (65,true)),.bin .eql,[.slot 67,.val (.str ⟨#[]⟩)],none⟩,⟨some 69,none,.pick,[.slot 65,.slot 68,.val (.bool false)],none⟩,⟨some 2,none,.id,[.slot 69],none⟩])
 (.ret))
 (.seq
 (.region [
 ⟨some 71,none,.bin .eql,[.slot 20,.val (.int .i64 5)],none⟩,⟨some 70,none,.id,[.slot 71],none⟩])
 (.cond (.slot 70)
 (.seq
 (.region [
 ⟨some 72,none,.id,[.slot 3],none⟩,⟨some 73,none,.id,[.slot 72],none⟩,⟨some 74,(some (73,true)),.id,[.slot 4],none⟩,⟨some 75,none,.pick,[.slot 73,.slot 74,.val (.bool false)],none⟩,⟨some 76,none,.id,[.slot 75],none⟩,⟨some 77,(some (76,true)),.id,[.slot 5],none⟩,⟨some 78,none,.pick,[.slot 76,.slot 77,.val (.bool false)],none⟩,⟨some 79,none,.id,[.slot 78],none⟩,⟨some 80,(some (79,true)),.id,[.slot 6],none⟩,⟨some 81,none,.pick,[.slot 79,.slot 80,.val (.bool false)],none⟩,⟨some 2,none,.id,[.slot 81],none⟩])
 (.ret))
 (.skip)))))))))))
 (.seq
 (.region [
 ⟨some 2,none,.id,[.val (.bool false)],none⟩])
 (.ret))))
def F_x16 : IFun := ⟨82,[.slot 2],b_x16,3,0,nofn⟩
theorem c_hedgerowref01_Elem : cFun Tryz.prog [1048577] 0 f_x16 = some F_x16 := by kernel_rfl
def b_x19 : ICode :=
 .seq
 (.region [
 ⟨some 1,none,.boxL,[.slot 0],none⟩,⟨some 2,none,.id,[.val (.bool false)],none⟩])
 (.seq
 (.seq
 (.region [
 ⟨some 5,none,.faddr 0,[.slot 1],none⟩,⟨some 6,none,.load 1 false,[.slot 5],none⟩])
 (.block 0
 (.seq
 (.region [
 ⟨some 8,none,.bin .eql,[.slot 6,.val (.int .i64 0)],none⟩,⟨some 7,none,.id,[.slot 8],none⟩])
 (.cond (.slot 7)
 (.seq
 (.region [
 ⟨some 9,none,.faddr 1,[.slot 1],none⟩,⟨some 10,none,.load 1 false,[.slot 9],none⟩,⟨some 11,none,.bin .eql,[.slot 10,.val (.int .i64 0)],none⟩,⟨some 12,none,.id,[.slot 11],none⟩,⟨some 13,(some (12,true)),.faddr 2,[.slot 1],none⟩,⟨some 14,(some (12,true)),.load 1 false,[.slot 13],none⟩,⟨some 15,(some (12,true)),.bin .eql,[.slot 14,.val (.str ⟨#[]⟩)],none⟩,⟨some 16,none,.pick,[.slot 12,.slot 15,.val (.bool false)],none⟩,⟨some 2,none,.id,[.slot 16],none⟩])
 (.ret))
 (.seq
 (.region [
 ⟨some 18,none,.bin .eql,[.slot 6,.val (.int .i64 1)],none⟩,⟨some 17,none,.id,[.slot 18],none⟩])
 (.cond (.slot 17)
 (.seq
 (.region [
 ⟨some 19,none,.faddr 1,[.slot 1],none⟩,⟨some 20,none,.load 1 false,[.slot 19],none⟩,⟨some 21,none,.bin .eql,[.slot 20,.val (.int .i64 0)],none⟩,⟨some 22,none,.id,[.slot 21],none⟩,⟨some 23,(some (22,false)),.faddr 1,[.slot 1],none⟩,⟨some 24,(some (22,false)),.load 1 false,[.slot 23],none⟩,⟨some 25,(some (22,false)),.bin .eql,[.slot 24,.val (.int .i64 1)],none⟩,⟨some 26,none,.pick,[.slot 22,.val (.bool true),.slot 25],none⟩,⟨some 27,none,.id,[.slot 26],none⟩,⟨some 28,(some (27,true)),.faddr 2,[.slot 1],none⟩,⟨some 29,(some (27,true)),.load 1 false,[.slot 28],none⟩,⟨some 30,(some (27,true)),.bin .eql,[.slot 29,.val (.str ⟨#[]⟩)],none⟩,⟨some 31,none,.pick,[.slot 27,.slot 30,.val (.bool false)],none⟩,⟨some 2,none,.id,[.slot 31],none⟩])
 (.ret))
 (.seq
 (.region [
 ⟨some 33,none,.bin .eql,[.slot 6,.val (.int .i64 2)],none⟩,⟨some 32,none,.id,[.slot 33],none⟩])
 (.cond (.slot 32)
 (.seq
 (.region [
 ⟨some 34,none,.faddr 1,[.slot 1],none⟩,⟨some 35,none,.load 1 false,[.slot 34],none⟩,⟨some 36,none,.bin .geq,[.slot 35,.val (.int .i64 (-1099511627776))],none⟩,⟨some 37,none,.id,[.slot 36],none⟩,⟨some 38,(some (37,true)),.faddr 1,[.slot 1],none⟩,⟨some 39,(some (37,true)),.load 1 false,[.slot 38],none⟩,⟨some 40,(some (37,true)),.bin .leq,[.slot 39,.val (.int .i64 1099511627776)],none⟩,⟨some 41,none,.pick,[.slot 37,.slot 40,.val (.bool false)],none⟩,⟨some 42,none,.id,[.slot 41],none⟩,⟨some 43,(some (42,true)),.faddr 2,[.slot 1],none⟩,⟨some 44,(some (42,true)),.load 1 false,[.slot 43],none⟩,⟨some 45,(some (42,true)),.bin .eql,[.slot 44,.val (.str ⟨#[]⟩)],none⟩,⟨some 46,none,.pick,[.slot 42,.slot 45,.val (.bool false)],none⟩,⟨some 2,none,.id,[.slot 46],none⟩])
 (.ret))
 (.seq
 (.region [
 ⟨some 48,none,.bin .eql,[.slot 6,.val (.int .i64 3)],none⟩,⟨some 47,none,.id,[.slot 48],none⟩])
 (.cond (.slot 47)
 (.seq
 (.region [
 ⟨some 49,none,.faddr 1,[.slot 1],none⟩,⟨some 50,none,.load 1 false,[.slot 49],none⟩,⟨some 51,none,.bin .eql,[.slot 50,.val (.int .i64 0)],none⟩,⟨some 52,none,.id,[.slot 51],none⟩,⟨some 53,(some (52,true)),.faddr 2,[.slot 1],none⟩,⟨some 54,(some (52,true)),.load 1 false,[.slot 53],none⟩,⟨some 55,(some (52,true)),.call f_x21,[.slot 54],none⟩,⟨some 56,none,.pick,[.slot 52,.slot 55,.val (.bool false)],none⟩,⟨some 2,none,.id,[.slot 56],none⟩])
 (.ret))
 (.seq
 (.region [
 ⟨some 58,none,.bin .eql,[.slot 6,.val (.int .i64 4)],none⟩,⟨some 57,none,.id,[.slot 58],none⟩])
 (.cond (.slot 57)
 (.seq
 (.region [
 ⟨some 59,none,.faddr 1,[.slot 1],none⟩,⟨some 60,none,.load 1 false,[.slot 59],none⟩,⟨some 61,none,.bin .eql,[.slot 60,.val (.int .i64 0)],none⟩,⟨some 62,none,.id,[.slot 61],none⟩,⟨some 63,(some (62,true)),.faddr 2,[.slot 1],none⟩,⟨some 64,(some (62,true)),.load 1 false,[.slot 63],none⟩,⟨some 65,(some (62,true)),.call f_x18,[.slot 64],none⟩,⟨some 66,none,.pick,[.slot 62,.slot 65,.val (.bool false)],none⟩,⟨some 2,none,.id,[.slot 66],none⟩])
 (.ret))
 (.seq
 (.region [
 ⟨some 68,none,.bin .eql,[.slot 6,.val (.int .i64 5)],none⟩,⟨some 67,none,.id,[.slot 68],none⟩])
 (.cond (.slot 67)
 (.seq
 (.region [
 ⟨some 70,none,.faddr 2,[.slot 1],none⟩,⟨some 71,none,.load 1 false,[.slot 70],none⟩,⟨some 72,none,.call f_x17,[.slot 71],none⟩,⟨some 69,none,.id,[.slot 72],none⟩,⟨some 73,none,.extract 0,[.slot 69],none⟩,⟨some 74,none,.extract 1,[.slot 69],none⟩,⟨some 3,none,.allocL [.str ⟨#[]⟩,.str ⟨#[]⟩,.str ⟨#[]⟩],[],none⟩,⟨none,none,.store 3,[.slot 3,.slot 73],none⟩,⟨some 4,none,.id,[.slot 74],none⟩])
 (.seq
 (.region [
 ⟨some 75,none,.faddr 1,[.slot 1],none⟩,⟨some 76,none,.load 1 false,[.slot 75],none⟩,⟨some 77,none,.bin .eql,[.slot 76,.val (.int .i64 0)],none⟩,⟨some 78,none,.id,[.slot 77],none⟩,⟨some 79,(some (78,true)),.id,[.slot 4],none⟩,⟨some 80,none,.pick,[.slot 78,.slot 79,.val (.bool false)],none⟩,⟨some 2,none,.id,[.slot 80],none⟩])
 (.ret)))
 (.skip)))))))))))))))
 (.seq
 (.region [
 ⟨some 2,none,.id,[.val (.bool false)],none⟩])
 (.ret)))
def F_x19 : IFun := ⟨81,[.slot 2],b_x19,3,0,nofn⟩
theorem c_hedgerowref01_Right : cFun Tryz.prog [1048577,1048579,2097277] 0 f_x19 = some F_x19 := by kernel_rfl
def b_x11 : ICode :=
 .seq
 (.region [
 ⟨some 1,none,.boxL,[.slot 0],none⟩,⟨some 2,none,.id,[.val (.bool false)],none⟩])
 (.seq
 (.seq
 (.region [
 ⟨some 4,none,.faddr 1,[.slot 1],none⟩,⟨some 5,none,.load 5 true,[.slot 4],none⟩,⟨some 6,none,.call f_x76,[.slot 5],none⟩,⟨some 7,none,.un .not,[.slot 6],none⟩])
 (.cond (.slot 7)
 (.seq
 (.region [
 ⟨some 2,none,.id,[.val (.bool false)],none⟩])
 (.ret))
 (.skip)))
 (.seq
 (.region [
 ⟨some 8,none,.faddr 6,[.slot 1],none⟩,⟨some 9,none,.load 3 true,[.slot 8],none⟩,⟨some 10,none,.build [.int .i64 0,.int .i64 0,.str ⟨#[]⟩] [],[],none⟩,⟨some 11,none,.eqv false [(.int .i64),(.int .i64),.str],[.slot 9,.slot 10],none⟩,⟨some 3,none,.id,[.slot 11],none⟩])
 (.seq
 (.seq
 (.region [
 ⟨some 12,none,.faddr 0,[.slot 1],none⟩,⟨some 13,none,.load 1 false,[.slot 12],none⟩])
 (.block 0
 (.seq
 (.seq
 (.region [
 ⟨some 15,none,.bin .eql,[.slot 13,.val (.int .i64 1)],none⟩,⟨some 14,none,.id,[.slot 15],none⟩])
 (.cond (.slot 14)
 (.skip)
 (.region [
 ⟨some 16,none,.bin .eql,[.slot 13,.val (.int .i64 2)],none⟩,⟨some 14,none,.id,[.slot 16],none⟩])))
 (.cond (.slot 14)
 (.seq
 (.region [
 ⟨some 17,none,.id,[.slot 3],none⟩,⟨some 18,none,.id,[.slot 17],none⟩,⟨some 19,(some (18,true)),.faddr 1,[.slot 1],none⟩,⟨some 20,(some (18,true)),.load 5 true,[.slot 19],none⟩,⟨some 21,(some (18,true)),.call f_x10,[.slot 20],none⟩,⟨some 22,(some (18,true)),.un .not,[.slot 21],none⟩,⟨some 23,none,.pick,[.slot 18,.slot 22,.val (.bool false)],none⟩,⟨some 2,none,.id,[.slot 23],none⟩])
 (.ret))
 (.seq
 (.region [
 ⟨some 25,none,.bin .eql,[.slot 13,.val (.int .i64 3)],none⟩,⟨some 24,none,.id,[.slot 25],none⟩])
 (.cond (.slot 24)
 (.seq
 (.region [
 ⟨some 26,none,.faddr 1,[.slot 1],none⟩,⟨some 27,none,.load 5 true,[.slot 26],none⟩,⟨some 28,none,.call f_x10,[.slot 27],none⟩,⟨some 29,none,.id,[.slot 28],none⟩,⟨some 30,(some (29,true)),.faddr 6,[.slot 1],none⟩,⟨some 31,(some (29,true)),.load 3 true,[.slot 30],none⟩,⟨some 32,(some (29,true)),.call f_x13,[.slot 31],none⟩,⟨some 33,none,.pick,[.slot 29,.slot 32,.val (.bool false)],none⟩,⟨some 2,none,.id,[.slot 33],none⟩])
 (.ret))
 (.seq
 (.region [
 ⟨some 35,none,.bin .eql,[.slot 13,.val (.int .i64 4)],none⟩,⟨some 34,none,.id,[.slot 35],none⟩])
 (.cond (.slot 34)
 (.seq
 (.region [
 ⟨some 36,none,.id,[.slot 3],none⟩,⟨some 37,none,.id,[.slot 36],none⟩,⟨some 38,(some (37,true)),.faddr 1,[.slot 1],none⟩,⟨some 39,(some (37,true)),.load 5 true,[.slot 38],none⟩,⟨some 40,(some (37,true)),.call f_x10,[.slot 39],none⟩,⟨some 41,none,.pick,[.slot 37,.slot 40,.val (.bool false)],none⟩,⟨some 2,none,.id,[.slot 41],none⟩])
 (.ret))
 (.skip)))))))))
 (.seq
 (.region [
 ⟨some 2,none,.id,[.val (.bool false)],none⟩])
 (.ret)))))
def F_x11 : IFun := ⟨42,[.slot 2],b_x11,3,0,nofn⟩
theorem c_event_may : cFun Tryz.prog [1048577] 0 f_x11 = some F_x11 := by kernel_rfl
def L0_x78 : ICode :=
 .seq
 (.region [
 ⟨some 20,none,.bin .lss,[.slot 19,.slot 18],none⟩])
 (.seq
 (.cond (.slot 20)
 (.skip)
 (.exit 0))
 (.seq
 (.block 1
 (.seq
 (.region [
 ⟨some 21,none,.id,[.slot 19],none⟩,⟨some 3,none,.id,[.slot 21],none⟩])
 (.seq
 (.region [
 ⟨some 22,none,.id,[.slot 0],none⟩,⟨some 23,none,.id,[.slot 3],none⟩,⟨some 24,none,.ixstr,[.slot 22,.slot 23],none⟩,⟨some 25,none,.call f_x81,[.slot 24],none⟩,⟨some 26,none,.un .not,[.slot 25],none⟩])
 (.cond (.slot 26)
 (.seq
 (.region [
 ⟨some 2,none,.id,[.val (.bool false)],none⟩])
 (.ret))
 (.skip)))))
 (.region [
 ⟨some 27,none,.bin .add,[.slot 19,.val (.int .i64 1)],none⟩,⟨some 19,none,.id,[.slot 27],none⟩])))
def b_x78 : ICode :=
 .seq
 (.region [
 ⟨some 2,none,.id,[.val (.bool false)],none⟩])
 (.seq
 (.seq
 (.region [
 ⟨some 4,none,.id,[.slot 0],none⟩,⟨some 5,none,.bin .eql,[.slot 4,.val (.str ⟨#[]⟩)],none⟩,⟨some 6,none,.id,[.slot 5],none⟩,⟨some 7,(some (6,false)),.id,[.slot 0],none⟩,⟨some 8,(some (6,false)),.lenstr,[.slot 7],none⟩,⟨some 9,(some (6,false)),.bin .gtr,[.slot 8,.val (.int .i64 16)],none⟩,⟨some 10,none,.pick,[.slot 6,.val (.bool true),.slot 9],none⟩,⟨some 11,none,.id,[.slot 10],none⟩,⟨some 12,(some (11,false)),.id,[.slot 0],none⟩,⟨some 13,(some (11,false)),.ixstr,[.slot 12,.val (.int .i64 0)],none⟩,⟨some 14,(some (11,false)),.call f_x82,[.slot 13],none⟩,⟨some 15,(some (11,false)),.un .not,[.slot 14],none⟩,⟨some 16,none,.pick,[.slot 11,.val (.bool true),.slot 15],none⟩])
 (.cond (.slot 16)
 (.seq
 (.region [
 ⟨some 2,none,.id,[.val (.bool false)],none⟩])
 (.ret))
 (.skip)))
 (.seq
 (.seq
 (.region [
 ⟨some 17,none,.id,[.slot 0],none⟩,⟨some 18,none,.lenstr,[.slot 17],none⟩,⟨some 19,none,.id,[.val (.int .i64 0)],none⟩])
 (.block 0
 (.loop L0_x78)))
 (.seq
 (.region [
 ⟨some 2,none,.id,[.val (.bool true)],none⟩])
 (.ret))))
def F_x78 : IFun := ⟨28,[.slot 2],b_x78,3,0,nofn⟩
theorem c_value_Name : cFun Tryz.prog [] 0 f_x78 = some F_x78 := by kernel_rfl
def F_x73 : IFun := ⟨8,[],.trap,0,10,nofn⟩
def b_x54 : ICode :=
 .seq
 (.region [
 ⟨some 2,none,.boxL,[.slot 0],none⟩,⟨some 3,none,.id,[.val (.bool false)],none⟩])
 (.seq
 (.region [
 ⟨some 4,none,.load 16 true,[.slot 1],none⟩,⟨some 5,none,.faddr 0,[.slot 2],none⟩,⟨some 6,none,.load 2 true,[.slot 5],none⟩,⟨some 7,none,.call f_x86,[.slot 4,.slot 6],none⟩,⟨some 8,none,.un .not,[.slot 7],none⟩,⟨some 3,none,.id,[.slot 8],none⟩])
 (.ret))
def F_x54 : IFun := ⟨9,[.slot 3],b_x54,3,0,nofn⟩
theorem c_snap_item_1 : cFun Tryz.prog [1048578] 0 f_x54 = some F_x54 := by kernel_rfl
def b_x38 : ICode :=
 .seq
 (.region [
 ⟨some 4,none,.id,[.val (.bool false)],none⟩])
 (.seq
 (.region [
 ⟨some 5,none,.id,[.slot 0],none⟩,⟨some 6,none,.id,[.slot 1],none⟩,⟨some 7,none,.call f_x43,[.slot 5,.slot 6],none⟩,⟨some 8,none,.bin .geq,[.slot 7,.val (.int .i64 0)],none⟩,⟨some 4,none,.id,[.slot 8],none⟩])
 (.ret))
def F_x38 : IFun := ⟨9,[.slot 4],b_x38,3,0,nofn⟩
theorem c_slices_ContainsFuncstore_Entrystore_Entry : cFun Tryz.prog [] 0 f_x38 = some F_x38 := by kernel_rfl
def b_x31 : ICode :=
 .seq
 (.region [
 ⟨some 2,none,.id,[.val (.int .i64 0)],none⟩])
 (.seq
 (.region [
 ⟨some 4,none,.id,[.slot 0],none⟩,⟨some 5,none,.call f_x30,[.slot 4,.val (.int .i64 2305843009213693952)],none⟩,⟨some 3,none,.id,[.slot 5],none⟩])
 (.seq
 (.seq
 (.region [
 ⟨some 6,none,.id,[.slot 3],none⟩,⟨some 7,none,.bin .and,[.slot 6,.val (.int .i64 1)],none⟩,⟨some 8,none,.bin .eql,[.slot 7,.val (.int .i64 1)],none⟩])
 (.cond (.slot 8)
 (.seq
 (.region [
 ⟨some 9,none,.id,[.slot 3],none⟩,⟨some 10,none,.bin .quo,[.slot 9,.val (.int .i64 2)],none⟩,⟨some 11,none,.un .neg,[.slot 10],none⟩,⟨some 12,none,.bin .sub,[.slot 11,.val (.int .i64 1)],none⟩,⟨some 2,none,.id,[.slot 12],none⟩])
 (.ret))
 (.skip)))
 (.seq
 (.region [
 ⟨some 13,none,.id,[.slot 3],none⟩,⟨some 14,none,.bin .quo,[.slot 13,.val (.int .i64 2)],none⟩,⟨some 2,none,.id,[.slot 14],none⟩])
 (.ret))))
def F_x31 : IFun := ⟨15,[.slot 2],b_x31,3,0,nofn⟩
theorem c_num_Reader_Signed : cFun Tryz.prog [] 0 f_x31 = some F_x31 := by kernel_rfl
def L0_x18 : ICode :=
 .seq
 (.seq
 (.region [
 ⟨some 7,none,.id,[.slot 3],none⟩,⟨some 8,none,.id,[.slot 0],none⟩,⟨some 9,none,.lenstr,[.slot 8],none⟩,⟨some 10,none,.bin .lss,[.slot 7,.slot 9],none⟩])
 (.cond (.slot 10)
 (.skip)
 (.exit 0)))
 (.seq
 (.block 1
 (.seq
 (.region [
 ⟨some 13,none,.id,[.slot 0],none⟩,⟨some 14,none,.id,[.slot 3],none⟩,⟨some 15,none,.ixstr,[.slot 13,.slot 14],none⟩,⟨some 4,none,.id,[.slot 15],none⟩])
 (.seq
 (.region [
 ⟨some 16,none,.id,[.slot 4],none⟩,⟨some 17,none,.bin .geq,[.slot 16,.val (.int .u8 97)],none⟩,⟨some 18,none,.id,[.slot 17],none⟩,⟨some 19,(some (18,true)),.id,[.slot 4],none⟩,⟨some 20,(some (18,true)),.bin .leq,[.slot 19,.val (.int .u8 122)],none⟩,⟨some 21,none,.pick,[.slot 18,.slot 20,.val (.bool false)],none⟩,⟨some 22,none,.id,[.slot 21],none⟩,⟨some 23,(some (22,false)),.id,[.slot 4],none⟩,⟨some 24,(some (22,false)),.bin .geq,[.slot 23,.val (.int .u8 65)],none⟩,⟨some 25,(some (22,false)),.id,[.slot 24],none⟩,⟨some 26,(some (25,true)),.id,[.slot 4],none⟩,⟨some 27,(some (25,true)),.bin .leq,[.slot 26,.val (.int .u8 90)],none⟩,⟨some 28,(some (22,false)),.pick,[.slot 25,.slot 27,.val (.bool false)],none⟩,⟨some 29,none,.pick,[.slot 22,.val (.bool true),.slot 28],none⟩,⟨some 5,none,.id,[.slot 29],none⟩])
 (.seq
 (.region [
 ⟨some 30,none,.id,[.slot 4],none⟩,⟨some 31,none,.bin .geq,[.slot 30,.val (.int .u8 48)],none⟩,⟨some 32,none,.id,[.slot 31],none⟩,⟨some 33,(some (32,true)),.id,[.slot 4],none⟩,⟨some 34,(some (32,true)),.bin .leq,[.slot 33,.val (.int .u8 57)],none⟩,⟨some 35,none,.pick,[.slot 32,.slot 34,.val (.bool false)],none⟩,⟨some 36,none,.id,[.slot 35],none⟩,⟨some 37,(some (36,false)),.id,[.slot 4],none⟩,⟨some 38,(some (36,false)),.bin .eql,[.slot 37,.val (.int .u8 95)],none⟩,⟨some 39,none,.pick,[.slot 36,.val (.bool true),.slot 38],none⟩,⟨some 6,none,.id,[.slot 39],none⟩])
 (.seq
 (.region [
 ⟨some 40,none,.id,[.slot 5],none⟩,⟨some 41,none,.un .not,[.slot 40],none⟩,⟨some 42,none,.id,[.slot 41],none⟩,⟨some 43,(some (42,true)),.id,[.slot 6],none⟩,⟨some 44,(some (42,true)),.un .not,[.slot 43],none⟩,⟨some 45,(some (42,true)),.id,[.slot 44],none⟩,⟨some 46,(some (45,false)),.id,[.slot 3],none⟩,⟨some 47,(some (45,false)),.bin .eql,[.slot 46,.val (.int .i64 0)],none⟩,⟨some 48,(some (42,true)),.pick,[.slot 45,.val (.bool true),.slot 47],none⟩,⟨some 49,none,.pick,[.slot 42,.slot 48,.val (.bool false)],none⟩])
 (.cond (.slot 49)
 (.seq
 (.region [
 ⟨some 2,none,.id,[.val (.bool false)],none⟩])
 (.ret))
 (.skip)))))))
 (.region [
 ⟨some 11,none,.id,[.slot 3],none⟩,⟨some 12,none,.bin .add,[.slot 11,.val (.int .i64 1)],none⟩,⟨some 3,none,.id,[.slot 12],none⟩]))
def b_x18 : ICode :=
 .seq
 (.region [
 ⟨some 2,none,.id,[.val (.bool false)],none⟩])
 (.seq
 (.seq
 (.region [
 ⟨some 3,none,.id,[.val (.int .i64 0)],none⟩])
 (.block 0
 (.loop L0_x18)))
 (.seq
 (.region [
 ⟨some 50,none,.id,[.slot 0],none⟩,⟨some 51,none,.lenstr,[.slot 50],none⟩,⟨some 52,none,.bin .geq,[.slot 51,.val (.int .i64 1)],none⟩,⟨some 53,none,.id,[.slot 52],none⟩,⟨some 54,(some (53,true)),.id,[.slot 0],none⟩,⟨some 55,(some (53,true)),.lenstr,[.slot 54],none⟩,⟨some 56,(some (53,true)),.bin .leq,[.slot 55,.val (.int .i64 16)],none⟩,⟨some 57,none,.pick,[.slot 53,.slot 56,.val (.bool false)],none⟩,⟨some 2,none,.id,[.slot 57],none⟩])
 (.ret)))
def F_x18 : IFun := ⟨58,[.slot 2],b_x18,3,0,nofn⟩
theorem c_hedgerowref01_Name : cFun Tryz.prog [] 0 f_x18 = some F_x18 := by kernel_rfl
def L0_x21 : ICode :=
 .seq
 (.seq
 (.region [
 ⟨some 4,none,.id,[.slot 3],none⟩,⟨some 5,none,.id,[.slot 0],none⟩,⟨some 6,none,.lenstr,[.slot 5],none⟩,⟨some 7,none,.bin .lss,[.slot 4,.slot 6],none⟩])
 (.cond (.slot 7)
 (.skip)
 (.exit 0)))
 (.seq
 (.block 1
 (.seq
 (.region [
 ⟨some 10,none,.id,[.slot 0],none⟩,⟨some 11,none,.id,[.slot 3],none⟩,⟨some 12,none,.ixstr,[.slot 10,.slot 11],none⟩,⟨some 13,none,.bin .lss,[.slot 12,.val (.int .u8 32)],none⟩,⟨some 14,none,.id,[.slot 13],none⟩,⟨some 15,(some (14,false)),.id,[.slot 0],none⟩,⟨some 16,(some (14,false)),.id,[.slot 3],none⟩,⟨some 17,(some (14,false)),.ixstr,[.slot 15,.slot 16],none⟩,⟨some 18,(some (14,false)),.bin .gtr,[.slot 17,.val (.int .u8 126)],none⟩,⟨some 19,none,.pick,[.slot 14,.val (.bool true),.slot 18],none⟩])
 (.cond (.slot 19)
 (.seq
 (.region [
 ⟨some 2,none,.id,[.val (.bool false)],none⟩])
 (.ret))
 (.skip))))
 (.region [
 ⟨some 8,none,.id,[.slot 3],none⟩,⟨some 9,none,.bin .add,[.slot 8,.val (.int .i64 1)],none⟩,⟨some 3,none,.id,[.slot 9],none⟩]))
def b_x21 : ICode :=
 .seq
 (.region [
 ⟨some 2,none,.id,[.val (.bool false)],none⟩])
 (.seq
 (.seq
 (.region [
 ⟨some 3,none,.id,[.val (.int .i64 0)],none⟩])
 (.block 0
 (.loop L0_x21)))
 (.seq
 (.region [
 ⟨some 20,none,.id,[.slot 0],none⟩,⟨some 21,none,.lenstr,[.slot 20],none⟩,⟨some 22,none,.bin .leq,[.slot 21,.val (.int .i64 64)],none⟩,⟨some 2,none,.id,[.slot 22],none⟩])
 (.ret)))
def F_x21 : IFun := ⟨23,[.slot 2],b_x21,3,0,nofn⟩
theorem c_hedgerowref01_plain : cFun Tryz.prog [] 0 f_x21 = some F_x21 := by kernel_rfl
def b_x17 : ICode :=
 .seq
 (.region [
 ⟨some 2,none,.allocL [.str ⟨#[]⟩,.str ⟨#[]⟩,.str ⟨#[]⟩],[],none⟩,⟨some 3,none,.id,[.val (.bool false)],none⟩])
 (.seq
 (.seq
 (.region [
 ⟨some 5,none,.id,[.slot 0],none⟩,⟨some 6,none,.lenstr,[.slot 5],none⟩,⟨some 7,none,.bin .gtr,[.slot 6,.val (.int .i64 60)],none⟩])
 (.cond (.slot 7)
 (.seq
 (.region [
 ⟨some 8,none,.build [.str ⟨#[]⟩,.str ⟨#[]⟩,.str ⟨#[]⟩] [],[],none⟩,⟨none,none,.store 3,[.slot 2,.slot 8],none⟩,⟨some 3,none,.id,[.val (.bool false)],none⟩])
 (.ret))
 (.skip)))
 (.seq
 (.region [
 ⟨some 9,none,.id,[.slot 0],none⟩,⟨some 10,none,.call f_x20,[.slot 9,.val (.int .u8 62)],none⟩,⟨some 4,none,.id,[.slot 10],none⟩])
 (.seq
 (.seq
 (.region [
 ⟨some 11,none,.id,[.slot 4],none⟩,⟨some 12,none,.lensl,[.slot 11],none⟩,⟨some 13,none,.bin .neq,[.slot 12,.val (.int .i64 3)],none⟩,⟨some 14,none,.id,[.slot 13],none⟩,⟨some 15,(some (14,false)),.id,[.slot 4],none⟩,⟨some 16,(some (14,false)),.ixaddr 1,[.slot 15,.val (.int .i64 0)],none⟩,⟨some 17,(some (14,false)),.load 1 false,[.slot 16],none⟩,⟨some 18,(some (14,false)),.call f_x18,[.slot 17],none⟩,⟨some 19,(some (14,false)),.un .not,[.slot 18],none⟩,⟨some 20,none,.pick,[.slot 14,.val (.bool true),.slot 19],none⟩,⟨some 21,none,.id,[.slot 20],none⟩,⟨some 22,(some (21,false)),.id,[.slot 4],none⟩,⟨some 23,(some (21,false)),.ixaddr 1,[.slot 22,.val (.int .i64 1)],none⟩,⟨some 24,(some (21,false)),.load 1 false,[.slot 23],none⟩,⟨some 25,(some (21,false)),.call f_x18,[.slot 24],none⟩,⟨some 26,(some (21,false)),.un .not,[.slot 25],none⟩,⟨some 27,none,.pick,[.slot 21,.val (.bool true),.slot 26],none⟩,⟨some 28,none,.id,[.slot 27],none⟩,⟨some 29,(some (28,false)),.id,[.slot 4],none⟩,⟨some 30,(some (28,false)),.ixaddr 1,[.slot 29,.val (.int .i64 2)],none⟩,⟨some 31,(some (28,false)),.load 1 false,[.slot 30],none⟩,⟨some 32,(some (28,false)),.call f_x18,[.slot 31],none⟩,⟨some 33,(some (28,false)),.un .not,[.slot 32],none⟩,⟨some 34,none,.pick,[.slot 28,.val (.bool true),.slot 33],none⟩])
 (.cond (.slot 34)
 (.seq
 (.region [
 ⟨some 35,none,.build [.str ⟨#[]⟩,.str ⟨#[]⟩,.str ⟨#[]⟩] [],[],none⟩,⟨none,none,.store 3,[.slot 2,.slot 35],none⟩,⟨some 3,none,.id,[.val (.bool false)],none⟩])
 (.ret))
 (.skip)))
 (.seq
 (.region [
 ⟨some 36,none,.id,[.slot 4],none⟩,⟨some 37,none,.ixaddr 1,[.slot 36,.val (.int .i64 0)],none⟩,⟨some 38,none,.load 1 false,[.slot 37],(some (.heap))⟩,⟨some 39,none,.id,[.slot 4],none⟩,⟨some 40,none,.ixaddr 1,[.slot 39,.val (.int .i64 1)],none⟩,⟨some 41,none,.load 1 false,[.slot 40],(some (.heap))⟩,⟨some 42,none,.id,[.slot 4],none⟩,⟨some 43,none,.ixaddr 1,[.slot 42,.val (.int .i64 2)],none⟩,⟨some 44,none,.load 1 false,[.slot 43],(some (.heap))⟩,⟨some 45,none,.build [.str ⟨#[]⟩,.str ⟨#[]⟩,.str ⟨#[]⟩] [(0,1),(2,1),(1,1)],[.slot 38,.slot 41,.slot 44],none⟩,⟨none,none,.store 3,[.slot 2,.slot 45],(some (.loc 2))⟩,⟨some 3,none,.id,[.val (.bool true)],none⟩])
 (.ret)))))
def F_x17 : IFun := ⟨46,[.cell 2 3 true,.slot 3],b_x17,3,1,nofn⟩
theorem c_hedgerowref01_Link : cFun Tryz.prog [1048578,3145765,3145768,3145771] 1 f_x17 = some F_x17 := by kernel_rfl
def b_x10 : ICode :=
 .seq
 (.region [
 ⟨some 1,none,.boxL,[.slot 0],none⟩,⟨some 2,none,.id,[.val (.bool false)],none⟩])
 (.seq
 (.region [
 ⟨some 3,none,.faddr 0,[.slot 1],none⟩,⟨some 4,none,.load 1 false,[.slot 3],none⟩,⟨some 5,none,.bin .eql,[.slot 4,.val (.int .i64 4)],none⟩,⟨some 6,none,.id,[.slot 5],none⟩,⟨some 7,(some (6,false)),.faddr 0,[.slot 1],none⟩,⟨some 8,(some (6,false)),.load 1 false,[.slot 7],none⟩,⟨some 9,(some (6,false)),.bin .eql,[.slot 8,.val (.int .i64 5)],none⟩,⟨some 10,none,.pick,[.slot 6,.val (.bool true),.slot 9],none⟩,⟨some 2,none,.id,[.slot 10],none⟩])
 (.ret))
def F_x10 : IFun := ⟨11,[.slot 2],b_x10,3,0,nofn⟩
theorem c_event_kept : cFun Tryz.prog [1048577] 0 f_x10 = some F_x10 := by kernel_rfl
def b_x13 : ICode :=
 .seq
 (.region [
 ⟨some 1,none,.boxL,[.slot 0],none⟩,⟨some 2,none,.id,[.val (.bool false)],none⟩])
 (.seq
 (.region [
 ⟨some 3,none,.faddr 0,[.slot 1],none⟩,⟨some 4,none,.load 1 false,[.slot 3],none⟩,⟨some 5,none,.bin .geq,[.slot 4,.val (.int .i64 1)],none⟩,⟨some 6,none,.id,[.slot 5],none⟩,⟨some 7,(some (6,true)),.faddr 0,[.slot 1],none⟩,⟨some 8,(some (6,true)),.load 1 false,[.slot 7],none⟩,⟨some 9,(some (6,true)),.bin .leq,[.slot 8,.val (.int .i64 3)],none⟩,⟨some 10,none,.pick,[.slot 6,.slot 9,.val (.bool false)],none⟩,⟨some 11,none,.id,[.slot 10],none⟩,⟨some 12,(some (11,true)),.load 3 true,[.slot 1],none⟩,⟨some 13,(some (11,true)),.call f_x79,[.slot 12],none⟩,⟨some 14,none,.pick,[.slot 11,.slot 13,.val (.bool false)],none⟩,⟨some 2,none,.id,[.slot 14],none⟩])
 (.ret))
def F_x13 : IFun := ⟨15,[.slot 2],b_x13,3,0,nofn⟩
theorem c_event_scalar : cFun Tryz.prog [1048577] 0 f_x13 = some F_x13 := by kernel_rfl
def b_x82 : ICode :=
 .seq
 (.region [
 ⟨some 2,none,.id,[.val (.bool false)],none⟩])
 (.seq
 (.region [
 ⟨some 3,none,.id,[.slot 0],none⟩,⟨some 4,none,.bin .geq,[.slot 3,.val (.int .u8 97)],none⟩,⟨some 5,none,.id,[.slot 4],none⟩,⟨some 6,(some (5,true)),.id,[.slot 0],none⟩,⟨some 7,(some (5,true)),.bin .leq,[.slot 6,.val (.int .u8 122)],none⟩,⟨some 8,none,.pick,[.slot 5,.slot 7,.val (.bool false)],none⟩,⟨some 9,none,.id,[.slot 8],none⟩,⟨some 10,(some (9,false)),.id,[.slot 0],none⟩,⟨some 11,(some (9,false)),.bin .geq,[.slot 10,.val (.int .u8 65)],none⟩,⟨some 12,(some (9,false)),.id,[.slot 11],none⟩,⟨some 13,(some (12,true)),.id,[.slot 0],none⟩,⟨some 14,(some (12,true)),.bin .leq,[.slot 13,.val (.int .u8 90)],none⟩,⟨some 15,(some (9,false)),.pick,[.slot 12,.slot 14,.val (.bool false)],none⟩,⟨some 16,none,.pick,[.slot 9,.val (.bool true),.slot 15],none⟩,⟨some 2,none,.id,[.slot 16],none⟩])
 (.ret))
def F_x82 : IFun := ⟨17,[.slot 2],b_x82,3,0,nofn⟩
theorem c_value_letter : cFun Tryz.prog [] 0 f_x82 = some F_x82 := by kernel_rfl
def b_x81 : ICode :=
 .seq
 (.region [
 ⟨some 2,none,.id,[.val (.bool false)],none⟩])
 (.seq
 (.region [
 ⟨some 3,none,.id,[.slot 0],none⟩,⟨some 4,none,.call f_x82,[.slot 3],none⟩,⟨some 5,none,.id,[.slot 4],none⟩,⟨some 6,(some (5,false)),.id,[.slot 0],none⟩,⟨some 7,(some (5,false)),.bin .geq,[.slot 6,.val (.int .u8 48)],none⟩,⟨some 8,(some (5,false)),.id,[.slot 7],none⟩,⟨some 9,(some (8,true)),.id,[.slot 0],none⟩,⟨some 10,(some (8,true)),.bin .leq,[.slot 9,.val (.int .u8 57)],none⟩,⟨some 11,(some (5,false)),.pick,[.slot 8,.slot 10,.val (.bool false)],none⟩,⟨some 12,none,.pick,[.slot 5,.val (.bool true),.slot 11],none⟩,⟨some 13,none,.id,[.slot 12],none⟩,⟨some 14,(some (13,false)),.id,[.slot 0],none⟩,⟨some 15,(some (13,false)),.bin .eql,[.slot 14,.val (.int .u8 95)],none⟩,⟨some 16,none,.pick,[.slot 13,.val (.bool true),.slot 15],none⟩,⟨some 2,none,.id,[.slot 16],none⟩])
 (.ret))
def F_x81 : IFun := ⟨17,[.slot 2],b_x81,3,0,nofn⟩
theorem c_value_inner : cFun Tryz.prog [] 0 f_x81 = some F_x81 := by kernel_rfl
def L0_x20 : ICode :=
 .seq
 (.seq
 (.region [
 ⟨some 8,none,.id,[.slot 6],none⟩,⟨some 9,none,.id,[.slot 0],none⟩,⟨some 10,none,.lenstr,[.slot 9],none⟩,⟨some 11,none,.bin .lss,[.slot 8,.slot 10],none⟩])
 (.cond (.slot 11)
 (.skip)
 (.exit 0)))
 (.seq
 (.block 1
 (.seq
 (.region [
 ⟨some 14,none,.id,[.slot 0],none⟩,⟨some 15,none,.id,[.slot 6],none⟩,⟨some 16,none,.ixstr,[.slot 14,.slot 15],none⟩,⟨some 17,none,.id,[.slot 1],none⟩,⟨some 18,none,.bin .eql,[.slot 16,.slot 17],none⟩])
 (.cond (.slot 18)
 (.region [
 ⟨some 19,none,.id,[.slot 5],none⟩,⟨some 20,none,.buildSl 1 1 (.str ⟨#[]⟩) [0],[.val (.str ⟨#[]⟩)],none⟩,⟨some 21,none,.append 9 1 16,[.slot 19,.slot 20],none⟩,⟨some 5,none,.id,[.slot 21],none⟩])
 (.region [
 ⟨some 22,none,.id,[.slot 5],none⟩,⟨some 23,none,.id,[.slot 5],none⟩,⟨some 24,none,.lensl,[.slot 23],none⟩,⟨some 25,none,.bin .sub,[.slot 24,.val (.int .i64 1)],none⟩,⟨some 26,none,.id,[.slot 5],none⟩,⟨some 27,none,.id,[.slot 5],none⟩,⟨some 28,none,.lensl,[.slot 27],none⟩,⟨some 29,none,.bin .sub,[.slot 28,.val (.int .i64 1)],none⟩,⟨some 30,none,.ixaddr 1,[.slot 26,.slot 29],none⟩,⟨some 31,none,.load 1 false,[.slot 30],(some (.heap))⟩,⟨some 32,none,.id,[.slot 0],none⟩,⟨some 33,none,.id,[.slot 6],none⟩,⟨some 34,none,.id,[.slot 6],none⟩,⟨some 35,none,.bin .add,[.slot 34,.val (.int .i64 1)],none⟩,⟨some 36,none,.slstr true true,[.slot 32,.slot 33,.slot 35],none⟩,⟨some 37,none,.bin .add,[.slot 31,.slot 36],none⟩,⟨some 38,none,.ixaddr 1,[.slot 22,.slot 25],none⟩,⟨none,none,.store 1,[.slot 38,.slot 37],(some (.heap))⟩]))))
 (.region [
 ⟨some 12,none,.id,[.slot 6],none⟩,⟨some 13,none,.bin .add,[.slot 12,.val (.int .i64 1)],none⟩,⟨some 6,none,.id,[.slot 13],none⟩]))
def b_x20 : ICode :=
 .seq
 (.region [
 ⟨some 4,none,.id,[.val .nilsl],none⟩])
 (.seq
 (.region [
 ⟨some 7,none,.buildR 9 1 1 (.str ⟨#[]⟩) [0],[.val (.str ⟨#[]⟩)],none⟩,⟨some 5,none,.id,[.slot 7],none⟩])
 (.seq
 (.seq
 (.region [
 ⟨some 6,none,.id,[.val (.int .i64 0)],none⟩])
 (.block 0
 (.loop L0_x20)))
 (.seq
 (.region [
 ⟨some 39,none,.id,[.slot 5],none⟩,⟨some 4,none,.id,[.slot 39],none⟩])
 (.ret))))
def F_x20 : IFun := ⟨40,[.slot 4],b_x20,3,0,nofn⟩
theorem c_hedgerowref01_Split : cFun Tryz.prog [7,3145758,3145766] 0 f_x20 = some F_x20 := by kernel_rfl
def b_x79 : ICode :=
 .seq
 (.region [
 ⟨some 1,none,.boxL,[.slot 0],none⟩,⟨some 2,none,.id,[.val (.bool false)],none⟩])
 (.seq
 (.seq
 (.region [
 ⟨some 5,none,.faddr 0,[.slot 1],none⟩,⟨some 6,none,.load 1 false,[.slot 5],none⟩])
 (.block 0
 (.seq
 (.region [
 ⟨some 8,none,.bin .eql,[.slot 6,.val (.int .i64 0)],none⟩,⟨some 7,none,.id,[.slot 8],none⟩])
 (.cond (.slot 7)
 (.seq
 (.region [
 ⟨some 9,none,.faddr 1,[.slot 1],none⟩,⟨some 10,none,.load 1 false,[.slot 9],none⟩,⟨some 11,none,.bin .eql,[.slot 10,.val (.int .i64 0)],none⟩,⟨some 12,none,.id,[.slot 11],none⟩,⟨some 13,(some (12,true)),.faddr 2,[.slot 1],none⟩,⟨some 14,(some (12,true)),.load 1 false,[.slot 13],none⟩,⟨some 15,(some (12,true)),.bin .eql,[.slot 14,.val (.str ⟨#[]⟩)],none⟩,⟨some 16,none,.pick,[.slot 12,.slot 15,.val (.bool false)],none⟩,⟨some 2,none,.id,[.slot 16],none⟩])
 (.ret))
 (.seq
 (.region [
 ⟨some 18,none,.bin .eql,[.slot 6,.val (.int .i64 1)],none⟩,⟨some 17,none,.id,[.slot 18],none⟩])
 (.cond (.slot 17)
 (.seq
 (.region [
 ⟨some 19,none,.faddr 1,[.slot 1],none⟩,⟨some 20,none,.load 1 false,[.slot 19],none⟩,⟨some 21,none,.bin .andNot,[.slot 20,.val (.int .i64 1)],none⟩,⟨some 22,none,.bin .eql,[.slot 21,.val (.int .i64 0)],none⟩,⟨some 23,none,.id,[.slot 22],none⟩,⟨some 24,(some (23,true)),.faddr 2,[.slot 1],none⟩,⟨some 25,(some (23,true)),.load 1 false,[.slot 24],none⟩,⟨some 26,(some (23,true)),.bin .eql,[.slot 25,.val (.str ⟨#[]⟩)],none⟩,⟨some 27,none,.pick,[.slot 23,.slot 26,.val (.bool false)],none⟩,⟨some 2,none,.id,[.slot 27],none⟩])
 (.ret))
 (.seq
 (.region [
 ⟨some 29,none,.bin .eql,[.slot 6,.val (.int .i64 2)],none⟩,⟨some 28,none,.id,[.slot 29],none⟩])
 (.cond (.slot 28)
 (.seq
 (.region [
 ⟨some 30,none,.faddr 1,[.slot 1],none⟩,⟨some 31,none,.load 1 false,[.slot 30],none⟩,⟨some 32,none,.bin .geq,[.slot 31,.val (.int .i64 (-1099511627776))],none⟩,⟨some 33,none,.id,[.slot 32],none⟩,⟨some 34,(some (33,true)),.faddr 1,[.slot 1],none⟩,⟨some 35,(some (33,true)),.load 1 false,[.slot 34],none⟩,⟨some 36,(some (33,true)),.bin .leq,[.slot 35,.val (.int .i64 1099511627776)],none⟩,⟨some 37,none,.pick,[.slot 33,.slot 36,.val (.bool false)],none⟩,⟨some 38,none,.id,[.slot 37],none⟩,⟨some 39,(some (38,true)),.faddr 2,[.slot 1],none⟩,⟨some 40,(some (38,true)),.load 1 false,[.slot 39],none⟩,⟨some 41,(some (38,true)),.bin .eql,[.slot 40,.val (.str ⟨#[]⟩)],none⟩,⟨some 42,none,.pick,[.slot 38,.slot 41,.val (.bool false)],none⟩,⟨some 2,none,.id,[.slot 42],none⟩])
 (.ret))
 (.seq
 (.region [
 ⟨some 44,none,.bin .eql,[.slot 6,.val (.int .i64 3)],none⟩,⟨some 43,none,.id,[.slot 44],none⟩])
 (.cond (.slot 43)
 (.seq
 (.region [
 ⟨some 45,none,.faddr 1,[.slot 1],none⟩,⟨some 46,none,.load 1 false,[.slot 45],none⟩,⟨some 47,none,.bin .eql,[.slot 46,.val (.int .i64 0)],none⟩,⟨some 48,none,.id,[.slot 47],none⟩,⟨some 49,(some (48,true)),.faddr 2,[.slot 1],none⟩,⟨some 50,(some (48,true)),.load 1 false,[.slot 49],none⟩,⟨some 51,(some (48,true)),.call f_x84,[.slot 50],none⟩,⟨some 52,none,.pick,[.slot 48,.slot 51,.val (.bool false)],none⟩,⟨some 2,none,.id,[.slot 52],none⟩])
 (.ret))
 (.seq
 (.region [
 ⟨some 54,none,.bin .eql,[.slot 6,.val (.int .i64 4)],none⟩,⟨some 53,none,.id,[.slot 54],none⟩])
 (.cond (.slot 53)
 (.seq
 (.region [
 ⟨some 55,none,.faddr 1,[.slot 1],none⟩,⟨some 56,none,.load 1 false,[.slot 55],none⟩,⟨some 57,none,.bin .eql,[.slot 56,.val (.int .i64 0)],none⟩,⟨some 58,none,.id,[.slot 57],none⟩,⟨some 59,(some (58,true)),.faddr 2,[.slot 1],none⟩,⟨some 60,(some (58,true)),.load 1 false,[.slot 59],none⟩,⟨some 61,(some (58,true)),.call f_x78,[.slot 60],none⟩,⟨some 62,none,.pick,[.slot 58,.slot 61,.val (.bool false)],none⟩,⟨some 2,none,.id,[.slot 62],none⟩])
 (.ret))
 (.skip)))))))))))))
 (.seq
 (.region [
 ⟨some 64,none,.load 3 true,[.slot 1],none⟩,⟨some 65,none,.call f_x77,[.slot 64],none⟩,⟨some 63,none,.id,[.slot 65],none⟩,⟨some 66,none,.extract 0,[.slot 63],none⟩,⟨some 67,none,.extract 1,[.slot 63],none⟩,⟨some 3,none,.allocL [.str ⟨#[]⟩,.str ⟨#[]⟩,.str ⟨#[]⟩],[],none⟩,⟨none,none,.store 3,[.slot 3,.slot 66],none⟩,⟨some 4,none,.id,[.slot 67],none⟩])
 (.seq
 (.region [
 ⟨some 68,none,.id,[.slot 4],none⟩,⟨some 2,none,.id,[.slot 68],none⟩])
 (.ret))))
def F_x79 : IFun := ⟨69,[.slot 2],b_x79,3,0,nofn⟩
theorem c_value_Right : cFun Tryz.prog [1048577,1048579] 0 f_x79 = some F_x79 := by kernel_rfl
def L0_x84 : ICode :=
 .seq
 (.region [
 ⟨some 7,none,.next,[.slot 6],none⟩,⟨some 8,none,.extract 0,[.slot 7],none⟩])
 (.seq
 (.cond (.slot 8)
 (.skip)
 (.exit 0))
 (.block 1
 (.seq
 (.region [
 ⟨some 9,none,.extract 2,[.slot 7],none⟩,⟨some 4,none,.id,[.slot 9],none⟩])
 (.seq
 (.region [
 ⟨some 10,none,.id,[.slot 4],none⟩,⟨some 11,none,.bin .lss,[.slot 10,.val (.int .i32 32)],none⟩,⟨some 12,none,.id,[.slot 11],none⟩,⟨some 13,(some (12,false)),.id,[.slot 4],none⟩,⟨some 14,(some (12,false)),.bin .gtr,[.slot 13,.val (.int .i32 126)],none⟩,⟨some 15,none,.pick,[.slot 12,.val (.bool true),.slot 14],none⟩])
 (.cond (.slot 15)
 (.seq
 (.region [
 ⟨some 2,none,.id,[.val (.bool false)],none⟩])
 (.ret))
 (.skip))))))
def b_x84 : ICode :=
 .seq
 (.region [
 ⟨some 2,none,.id,[.val (.bool false)],none⟩])
 (.seq
 (.seq
 (.region [
 ⟨some 5,none,.id,[.slot 0],none⟩,⟨some 6,none,.range,[.slot 5],none⟩])
 (.block 0
 (.loop L0_x84)))
 (.seq
 (.region [
 ⟨some 16,none,.id,[.slot 0],none⟩,⟨some 17,none,.lenstr,[.slot 16],none⟩,⟨some 18,none,.bin .leq,[.slot 17,.val (.int .i64 64)],none⟩,⟨some 2,none,.id,[.slot 18],none⟩])
 (.ret)))
def F_x84 : IFun := ⟨19,[.slot 2],b_x84,3,0,nofn⟩
theorem c_value_plain : cFun Tryz.prog [] 0 f_x84 = some F_x84 := by kernel_rfl
def b_x77 : ICode :=
 .seq
 (.region [
 ⟨some 1,none,.boxL,[.slot 0],none⟩,⟨some 2,none,.allocL [.str ⟨#[]⟩,.str ⟨#[]⟩,.str ⟨#[]⟩],[],none⟩,⟨some 3,none,.id,[.val (.bool false)],none⟩])
 (.seq
 (.region [
 ⟨some 5,none,.faddr 2,[.slot 1],none⟩,⟨some 6,none,.load 1 false,[.slot 5],none⟩,⟨some 7,none,.call f_x74,[.slot 6,.val (.str ⟨#[62]⟩)],none⟩,⟨some 4,none,.id,[.slot 7],none⟩])
 (.seq
 (.seq
 (.region [
 ⟨some 8,none,.faddr 0,[.slot 1],none⟩,⟨some 9,none,.load 1 false,[.slot 8],none⟩,⟨some 10,none,.bin .neq,[.slot 9,.val (.int .i64 5)],none⟩,⟨some 11,none,.id,[.slot 10],none⟩,⟨some 12,(some (11,false)),.faddr 1,[.slot 1],none⟩,⟨some 13,(some (11,false)),.load 1 false,[.slot 12],none⟩,⟨some 14,(some (11,false)),.bin .neq,[.slot 13,.val (.int .i64 0)],none⟩,⟨some 15,none,.pick,[.slot 11,.val (.bool true),.slot 14],none⟩,⟨some 16,none,.id,[.slot 15],none⟩,⟨some 17,(some (16,false)),.id,[.slot 4],none⟩,⟨some 18,(some (16,false)),.lensl,[.slot 17],none⟩,⟨some 19,(some (16,false)),.bin .neq,[.slot 18,.val (.int .i64 3)],none⟩,⟨some 20,none,.pick,[.slot 16,.val (.bool true),.slot 19],none⟩,⟨some 21,none,.id,[.slot 20],none⟩,⟨some 22,(some (21,false)),.id,[.slot 4],none⟩,⟨some 23,(some (21,false)),.call f_x83,[.slot 22],none⟩,⟨some 24,(some (21,false)),.un .not,[.slot 23],none⟩,⟨some 25,none,.pick,[.slot 21,.val (.bool true),.slot 24],none⟩])
 (.cond (.slot 25)
 (.seq
 (.region [
 ⟨some 26,none,.build [.str ⟨#[]⟩,.str ⟨#[]⟩,.str ⟨#[]⟩] [],[],none⟩,⟨none,none,.store 3,[.slot 2,.slot 26],none⟩,⟨some 3,none,.id,[.val (.bool false)],none⟩])
 (.ret))
 (.skip)))
 (.seq
 (.region [
 ⟨some 27,none,.id,[.slot 4],none⟩,⟨some 28,none,.ixaddr 1,[.slot 27,.val (.int .i64 0)],none⟩,⟨some 29,none,.load 1 false,[.slot 28],(some (.el))⟩,⟨some 30,none,.id,[.slot 4],none⟩,⟨some 31,none,.ixaddr 1,[.slot 30,.val (.int .i64 1)],none⟩,⟨some 32,none,.load 1 false,[.slot 31],(some (.el))⟩,⟨some 33,none,.id,[.slot 4],none⟩,⟨some 34,none,.ixaddr 1,[.slot 33,.val (.int .i64 2)],none⟩,⟨some 35,none,.load 1 false,[.slot 34],(some (.el))⟩,⟨some 36,none,.build [.str ⟨#[]⟩,.str ⟨#[]⟩,.str ⟨#[]⟩] [(0,1),(2,1),(1,1)],[.slot 29,.slot 32,.slot 35],none⟩,⟨none,none,.store 3,[.slot 2,.slot 36],(some (.loc 2))⟩,⟨some 3,none,.id,[.val (.bool true)],none⟩])
 (.ret))))
def F_x77 : IFun := ⟨37,[.cell 2 3 true,.slot 3],b_x77,3,0,nofn⟩
theorem c_value_Link : cFun Tryz.prog [1048577,1048578,2097304] 0 f_x77 = some F_x77 := by kernel_rfl
def F_x74 : IFun := ⟨8,[],.trap,0,11,nofn⟩
def rows : List (Nat × List Nat × IFun) := [
 (7,[1048580,1048582,1048585,1048586,1048589,1048591,2097175,2097177,2097178],F_x14),
 (10,[1048579,1048581,1048583],F_x25),
 (11,[3],F_x62),
 (12,[3,1048582,8388613],F_x66),
 (17,[1048579,8388612],F_x68),
 (20,[1048579,1048582],F_x69),
 (23,[1048579,1048581,1048583,2097177,2097178],F_x15),
 (24,[1048577],F_x24),
 (25,[1048577,1048585,1048587],F_x46),
 (26,[7,1048578,1048581,2097214],F_x47),
 (27,[1048577,1048581],F_x52),
 (28,[1048578,1048579],F_x50),
 (29,[1048578,1048579],F_x63),
 (30,[1048577,1048579],F_x23),
 (31,[1048577],F_x9),
 (32,[1048583],F_x39),
 (33,[16777223],F_x37),
 (34,[1048578],F_x67),
 (35,[1048578,1048579],F_x86),
 (36,[1048580],F_x36),
 (37,[1048578,1048579],F_x71),
 (38,[],F_x44),
 (39,[1048580],F_x70),
 (40,[],F_x45),
 (41,[1048578,1048579],F_x65),
 (45,[1048577],F_x76),
 (46,[1048578,1048579],F_x72),
 (50,[1048577,1048580,1048582,2097237],F_x49),
 (51,[],F_x26),
 (52,[1048579,1048584],F_x55),
 (53,[3,4194307],F_x7),
 (54,[5],F_x27),
 (55,[2097213],F_x30),
 (56,[2097213],F_x61),
 (57,[2],F_x58),
 (58,[2097213],F_x59),
 (59,[1048579,1048580,2097213],F_x48),
 (60,[1048578,1048580,2097213],F_x8),
 (61,[],F_x29),
 (62,[2097213],F_x28),
 (63,[1048578,1048579],F_x51),
 (64,[],F_x42),
 (65,[1048584,1048585],F_x40),
 (66,[],F_x41),
 (67,[],F_x2),
 (68,[],F_x0),
 (69,[],F_x1),
 (70,[1048577],F_x22),
 (71,[1048578,1048579],F_x87),
 (72,[1048577],F_x88),
 (73,[1048577],F_x5),
 (74,[1048577,1048578],F_x6),
 (75,[],F_x43),
 (76,[1048577],F_x85),
 (82,[],F_x83),
 (83,[2097263],F_x80),
 (85,[2,1048579],F_x53),
 (86,[],F_x34),
 (87,[1048579],F_x56),
 (88,[],F_x33),
 (89,[],F_x35),
 (90,[2097213],F_x32),
 (91,[2097213],F_x60),
 (92,[1048578],F_x57),
 (93,[2],F_x12),
 (94,[],F_x3),
 (95,[],F_x4),
 (96,[1048577],F_x16),
 (97,[1048577,1048579,2097277],F_x19),
 (98,[1048577],F_x11),
 (110,[],F_x78),
 (111,[],F_x73),
 (120,[1048578],F_x54),
 (121,[],F_x38),
 (122,[],F_x31),
 (123,[],F_x18),
 (124,[],F_x21),
 (125,[1048578,3145765,3145768,3145771],F_x17),
 (126,[1048577],F_x10),
 (127,[1048577],F_x13),
 (134,[],F_x82),
 (135,[],F_x81),
 (142,[7,3145758,3145766],F_x20),
 (143,[1048577,1048579],F_x79),
 (148,[],F_x84),
 (149,[1048577,1048578,2097304],F_x77),
 (152,[],F_x74)]
def T : Nat → Option IFun := tableOf rows
theorem T_rows : RowsOk Tryz.prog rows :=
 .cons c_hedgerowlaw12_SnapStores (by decide) <|
 .cons c_hedgerowref07_Causal (by decide) <|
 .cons c_store_New (by decide) <|
 .cons c_store_Store_Do (by decide) <|
 .cons c_store_Store_Entries (by decide) <|
 .cons c_store_Store_Put (by decide) <|
 .cons c_hedgerowlaw12_fixed (by decide) <|
 .cons c_hedgerowref06_Short (by decide) <|
 .cons c_snap_Bytes (by decide) <|
 .cons c_snap_Parse (by decide) <|
 .cons c_snap_Store (by decide) <|
 .cons c_snap_Same (by decide) <|
 .cons c_store_Order (by decide) <|
 .cons c_hedgerowref06_Right (by decide) <|
 .cons c_event_Right (by decide) <|
 .cons c_slices_DeleteFuncstore_Entrystore_Entry (by decide) <|
 .cons c_slices_Clonestore_Entrystore_Entry (by decide) <|
 .cons c_store_Store_Do_1 (by decide) <|
 .cons c_vector_Knows (by decide) <|
 .cons c_slices_BinarySearchFuncstore_Entrystore_Entrystore_Entry (by decide) <|
 .cons c_store_byDot (by decide) <|
 .lib libfn_slices_Insertstore_Entrystore_Entry (by decide) <|
 .cons c_store_Store_lay (by decide) <|
 .lib libfn_slices_SortFuncstore_Itemstore_Item (by decide) <|
 .cons c_store_Store_All_1 (by decide) <|
 .cons c_value_Elem (by decide) <|
 .cons c_store_entry (by decide) <|
 .cons c_snap_Right (by decide) <|
 .cons c_num_Put (by decide) <|
 .cons c_snap_putItem (by decide) <|
 .cons c_event_Put (by decide) <|
 .cons c_num_Read (by decide) <|
 .cons c_num_Reader_Num (by decide) <|
 .cons c_snap_rowsstore_Item (by decide) <|
 .cons c_snap_readItem (by decide) <|
 .cons c_snap_rowsapi_Event (by decide) <|
 .cons c_snap_Parse_1 (by decide) <|
 .cons c_event_Read (by decide) <|
 .cons c_num_Reader_Fail (by decide) <|
 .cons c_num_Reader_Done (by decide) <|
 .cons c_snap_Same_1 (by decide) <|
 .cons c_slices_Equalstore_Entrystore_Entry (by decide) <|
 .cons c_slices_EqualFuncstore_Itemstore_Itemstore_Itemstore_Item (by decide) <|
 .cons c_slices_Equalapi_Eventapi_Event (by decide) <|
 .cons c_cmp_Orint (by decide) <|
 .cons c_cmp_Compareint (by decide) <|
 .cons c_cmp_Comparestring (by decide) <|
 .cons c_hedgerowref06_Change (by decide) <|
 .cons c_vector_Next (by decide) <|
 .cons c_vector_Right (by decide) <|
 .cons c_event_Change (by decide) <|
 .cons c_event_Of (by decide) <|
 .cons c_slices_IndexFuncstore_Entrystore_Entry (by decide) <|
 .cons c_vector_Dot (by decide) <|
 .cons c_value_names (by decide) <|
 .cons c_value_empty (by decide) <|
 .cons c_snap_item (by decide) <|
 .cons c_num_Text (by decide) <|
 .cons c_snap_putValue (by decide) <|
 .cons c_num_Signed (by decide) <|
 .cons c_num_take (by decide) <|
 .cons c_num_Reader_Text (by decide) <|
 .cons c_snap_rowsstore_Entry (by decide) <|
 .cons c_snap_readEntry (by decide) <|
 .cons c_event_next (by decide) <|
 .cons c_cmp_isNaNint (by decide) <|
 .cons c_cmp_isNaNstring (by decide) <|
 .cons c_hedgerowref01_Elem (by decide) <|
 .cons c_hedgerowref01_Right (by decide) <|
 .cons c_event_may (by decide) <|
 .cons c_value_Name (by decide) <|
 .lib lib10 (by decide) <|
 .cons c_snap_item_1 (by decide) <|
 .cons c_slices_ContainsFuncstore_Entrystore_Entry (by decide) <|
 .cons c_num_Reader_Signed (by decide) <|
 .cons c_hedgerowref01_Name (by decide) <|
 .cons c_hedgerowref01_plain (by decide) <|
 .cons c_hedgerowref01_Link (by decide) <|
 .cons c_event_kept (by decide) <|
 .cons c_event_scalar (by decide) <|
 .cons c_value_letter (by decide) <|
 .cons c_value_inner (by decide) <|
 .cons c_hedgerowref01_Split (by decide) <|
 .cons c_value_Right (by decide) <|
 .cons c_value_plain (by decide) <|
 .cons c_value_Link (by decide) <|
 .lib lib11 (by decide) <|
 .nil
theorem T_ok : TableOk Tryz.prog T := tableOf_ok (by kernel_rfl) T_rows.all
theorem T_x14 : T f_x14 = some F_x14 := by kernel_rfl
theorem T_x25 : T f_x25 = some F_x25 := by kernel_rfl
theorem T_x62 : T f_x62 = some F_x62 := by kernel_rfl
theorem T_x66 : T f_x66 = some F_x66 := by kernel_rfl
theorem T_x68 : T f_x68 = some F_x68 := by kernel_rfl
theorem T_x69 : T f_x69 = some F_x69 := by kernel_rfl
theorem T_x24 : T f_x24 = some F_x24 := by kernel_rfl
theorem T_x46 : T f_x46 = some F_x46 := by kernel_rfl
theorem T_x47 : T f_x47 = some F_x47 := by kernel_rfl
theorem T_x52 : T f_x52 = some F_x52 := by kernel_rfl
theorem T_x50 : T f_x50 = some F_x50 := by kernel_rfl
theorem T_x63 : T f_x63 = some F_x63 := by kernel_rfl
theorem T_x23 : T f_x23 = some F_x23 := by kernel_rfl
theorem T_x9 : T f_x9 = some F_x9 := by kernel_rfl
theorem T_x39 : T f_x39 = some F_x39 := by kernel_rfl
theorem T_x37 : T f_x37 = some F_x37 := by kernel_rfl
theorem T_x67 : T f_x67 = some F_x67 := by kernel_rfl
theorem T_x86 : T f_x86 = some F_x86 := by kernel_rfl
theorem T_x36 : T f_x36 = some F_x36 := by kernel_rfl
theorem T_x71 : T f_x71 = some F_x71 := by kernel_rfl
theorem T_x44 : T f_x44 = some F_x44 := by kernel_rfl
theorem T_x70 : T f_x70 = some F_x70 := by kernel_rfl
theorem T_x45 : T f_x45 = some F_x45 := by kernel_rfl
theorem T_x65 : T f_x65 = some F_x65 := by kernel_rfl
theorem T_x76 : T f_x76 = some F_x76 := by kernel_rfl
theorem T_x72 : T f_x72 = some F_x72 := by kernel_rfl
theorem T_x49 : T f_x49 = some F_x49 := by kernel_rfl
theorem T_x26 : T f_x26 = some F_x26 := by kernel_rfl
theorem T_x55 : T f_x55 = some F_x55 := by kernel_rfl
theorem T_x7 : T f_x7 = some F_x7 := by kernel_rfl
theorem T_x27 : T f_x27 = some F_x27 := by kernel_rfl
theorem T_x30 : T f_x30 = some F_x30 := by kernel_rfl
theorem T_x61 : T f_x61 = some F_x61 := by kernel_rfl
theorem T_x58 : T f_x58 = some F_x58 := by kernel_rfl
theorem T_x59 : T f_x59 = some F_x59 := by kernel_rfl
theorem T_x48 : T f_x48 = some F_x48 := by kernel_rfl
theorem T_x8 : T f_x8 = some F_x8 := by kernel_rfl
theorem T_x29 : T f_x29 = some F_x29 := by kernel_rfl
theorem T_x28 : T f_x28 = some F_x28 := by kernel_rfl
theorem T_x51 : T f_x51 = some F_x51 := by kernel_rfl
theorem T_x42 : T f_x42 = some F_x42 := by kernel_rfl
theorem T_x40 : T f_x40 = some F_x40 := by kernel_rfl
theorem T_x41 : T f_x41 = some F_x41 := by kernel_rfl
theorem T_x2 : T f_x2 = some F_x2 := by kernel_rfl
theorem T_x0 : T f_x0 = some F_x0 := by kernel_rfl
theorem T_x1 : T f_x1 = some F_x1 := by kernel_rfl
theorem T_x22 : T f_x22 = some F_x22 := by kernel_rfl
theorem T_x87 : T f_x87 = some F_x87 := by kernel_rfl
theorem T_x88 : T f_x88 = some F_x88 := by kernel_rfl
theorem T_x5 : T f_x5 = some F_x5 := by kernel_rfl
theorem T_x6 : T f_x6 = some F_x6 := by kernel_rfl
theorem T_x43 : T f_x43 = some F_x43 := by kernel_rfl
theorem T_x85 : T f_x85 = some F_x85 := by kernel_rfl
theorem T_x83 : T f_x83 = some F_x83 := by kernel_rfl
theorem T_x80 : T f_x80 = some F_x80 := by kernel_rfl
theorem T_x53 : T f_x53 = some F_x53 := by kernel_rfl
theorem T_x34 : T f_x34 = some F_x34 := by kernel_rfl
theorem T_x56 : T f_x56 = some F_x56 := by kernel_rfl
theorem T_x33 : T f_x33 = some F_x33 := by kernel_rfl
theorem T_x35 : T f_x35 = some F_x35 := by kernel_rfl
theorem T_x32 : T f_x32 = some F_x32 := by kernel_rfl
theorem T_x60 : T f_x60 = some F_x60 := by kernel_rfl
theorem T_x57 : T f_x57 = some F_x57 := by kernel_rfl
theorem T_x12 : T f_x12 = some F_x12 := by kernel_rfl
theorem T_x3 : T f_x3 = some F_x3 := by kernel_rfl
theorem T_x4 : T f_x4 = some F_x4 := by kernel_rfl
theorem T_x16 : T f_x16 = some F_x16 := by kernel_rfl
theorem T_x19 : T f_x19 = some F_x19 := by kernel_rfl
theorem T_x11 : T f_x11 = some F_x11 := by kernel_rfl
theorem T_x78 : T f_x78 = some F_x78 := by kernel_rfl
theorem T_x73 : T f_x73 = some F_x73 := by kernel_rfl
theorem T_x54 : T f_x54 = some F_x54 := by kernel_rfl
theorem T_x38 : T f_x38 = some F_x38 := by kernel_rfl
theorem T_x31 : T f_x31 = some F_x31 := by kernel_rfl
theorem T_x18 : T f_x18 = some F_x18 := by kernel_rfl
theorem T_x21 : T f_x21 = some F_x21 := by kernel_rfl
theorem T_x17 : T f_x17 = some F_x17 := by kernel_rfl
theorem T_x10 : T f_x10 = some F_x10 := by kernel_rfl
theorem T_x13 : T f_x13 = some F_x13 := by kernel_rfl
theorem T_x82 : T f_x82 = some F_x82 := by kernel_rfl
theorem T_x81 : T f_x81 = some F_x81 := by kernel_rfl
theorem T_x20 : T f_x20 = some F_x20 := by kernel_rfl
theorem T_x79 : T f_x79 = some F_x79 := by kernel_rfl
theorem T_x84 : T f_x84 = some F_x84 := by kernel_rfl
theorem T_x77 : T f_x77 = some F_x77 := by kernel_rfl
theorem T_x74 : T f_x74 = some F_x74 := by kernel_rfl
end Go.Proofs.YthmplnbogdfajaaGreatDoor
