/- Own work: the zaG machine and what it shows,part Fun. -/
import Derived.Test.YtchjbidfmhmmhaaGreatDoorChecked
import Derived.Test.YtchjbidfmhmmhaaGreatDoorShT
import Derived.Test.YtchjbidfmhmmhaaGreatDoorLib
set_option linter.all false
namespace Go.Proofs.YtchjbidfmhmmhaaGreatDoor
open Go.Sh
set_option maxRecDepth 100000
abbrev zkJ:Nat:=6
abbrev zuO:Nat:=10
abbrev zuP:Nat:=12
abbrev zqQ:Nat:=13
abbrev zoE:Nat:=14
abbrev zhu:Nat:=15
abbrev zmb:Nat:=16
abbrev zuQ:Nat:=22
abbrev zqR:Nat:=23
abbrev zmc:Nat:=24
abbrev zuR:Nat:=25
abbrev zmd:Nat:=26
abbrev zqS:Nat:=28
abbrev zoF:Nat:=30
abbrev zoG:Nat:=31
abbrev zuS:Nat:=32
abbrev zzB:Nat:=40
abbrev zuT:Nat:=47
abbrev zgY:Nat:=48
abbrev zqT:Nat:=49
abbrev zuU:Nat:=50
abbrev zBN:Nat:=51
abbrev zme:Nat:=52
abbrev ziB:Nat:=53
abbrev zuV:Nat:=54
abbrev zuW:Nat:=55
abbrev zmf:Nat:=56
abbrev zxu:Nat:=57
abbrev zuX:Nat:=58
abbrev zqU:Nat:=59
abbrev zzC:Nat:=60
abbrev zeK:Nat:=61
abbrev zuY:Nat:=62
abbrev f_x23:Nat:=63
abbrev zqV:Nat:=65
abbrev ziC:Nat:=77
abbrev zmg:Nat:=78
abbrev zjJ:Nat:=79
abbrev zqW:Nat:=80
abbrev zqX:Nat:=83
abbrev zuZ:Nat:=85
abbrev zqY:Nat:=94
abbrev zu0:Nat:=95
abbrev zu1:Nat:=96
abbrev zu2:Nat:=97
abbrev zBO:Nat:=98
abbrev zBP:Nat:=99
abbrev zoH:Nat:=100
abbrev zqZ:Nat:=101
abbrev f_x2:Nat:=102
abbrev f_x0:Nat:=103
abbrev zoI:Nat:=106
abbrev zu3:Nat:=107
abbrev f_x54:Nat:=108
abbrev f_x52:Nat:=109
abbrev zq0:Nat:=110
abbrev zu4:Nat:=111
abbrev zq1:Nat:=112
abbrev f_x1:Nat:=115
abbrev zu5:Nat:=116
abbrev zoJ:Nat:=117
abbrev zq2:Nat:=118
abbrev zxv:Nat:=128
abbrev zq3:Nat:=129
abbrev zu6:Nat:=135
abbrev zBQ:Nat:=136
abbrev f_x3:Nat:=137
abbrev zu7:Nat:=140
abbrev f_x69:Nat:=141
abbrev zoK:Nat:=142
abbrev f_x4:Nat:=153
abbrev zq4:Nat:=154
abbrev zu8:Nat:=155
abbrev zxw:Nat:=156
abbrev zge:Nat:=157
abbrev zxx:Nat:=162
abbrev zu9:Nat:=164
abbrev zxy:Nat:=165
abbrev zva:Nat:=166
abbrev zvb:Nat:=171
abbrev zyY:Nat:=172
abbrev zvc:Nat:=173
abbrev zvd:Nat:=194
abbrev zmh:Nat:=196
abbrev zjK:Nat:=197
def zq5:ICode:=oR [oB 80 .lss 79 78] (.seq (oE 80 0) (.seq (.block 1 (oR [oX 81 3 77 79,oM 82 3 81,oO 14 (.allocL [.str ⟨#[]⟩,.str ⟨#[]⟩,.str ⟨#[]⟩]) [],oS 3 14 82] (oR [oF 83 0 14,oL 84 1 83,oI 85 1,oB 86 .eql 84 85,oI 87 86,oH 87 (oF 88 1 14),oH 87 (oL 89 1 88),oH 87 (oI 90 1),oH 87 (oB 91 .eql 89 90),oQ 92 87 91] (oT 92 (oR [oV 4 (.bool false)] .ret))))) (.region [oC 93 .add 79 1,oI 79 93])))
def zzD:ICode:=oR [oV 4 (.bool false)] (.seq (oR [oO 15 (.call zuQ) [],oO 16 (.un .not) [s_ 15]] (oT 16 (oR [oV 4 (.bool false)] .ret))) (.seq (oR [oI 17 0,oO 18 (.call zqR) [s_ 17],oO 19 (.un .not) [s_ 18],oI 20 19,oH 20 (oI 21 1),oH 20 (oO 22 .lenstr [s_ 21]),oH 20 (oC 23 .gtr 22 50),oQ 24 20 23] (oT 24 (oR [oV 4 (.bool true)] .ret))) (oR [oI 26 0,oO 27 (.call zqQ) [s_ 26],oI 25 27,oO 28 (.extract 0) [s_ 25],oO 29 (.extract 1) [s_ 25],oO 6 (.allocL [n_ 0,n_ 0,n_ 0,n_ 0,n_ 0,n_ 0,n_ 0,n_ 0,n_ 0,n_ 0,n_ 0,n_ 0,n_ 0,n_ 0,n_ 0,n_ 0]) [],oI 5 28,oS 16 6 29] (oR [oI 30 5,oO 31 (.call zmc) [s_ 30],oI 7 31] (.seq (oR [oI 32 7,oI 33 1,oO 34 (.call zoF) [s_ 32,s_ 33],oO 35 (.un .not) [s_ 34],oI 36 35,oH 36 (oO 37 (.ixaddrA 16 1) [s_ 6,.val (n_ 15)]),oH 36 (oL 38 1 37),oH 36 (oC 39 .geq 38 1048574),oQ 40 36 39] (oT 40 (oR [oV 4 (.bool true)] .ret))) (oR [oI 41 1,oO 42 (.build [n_ 0,.str ⟨#[]⟩,.str ⟨#[]⟩,.str ⟨#[]⟩,.str ⟨#[]⟩] [(0,1),(1,1)]) [.val (n_ 1),s_ 41],oO 8 (.allocL [n_ 0,.str ⟨#[]⟩,.str ⟨#[]⟩,.str ⟨#[]⟩,.str ⟨#[]⟩]) [],oS 5 8 42] (oR [oO 43 (.ixaddrA 16 1) [s_ 6,.val (n_ 15)],oL 44 1 43,oC 45 .add 44 1,oO 46 (.build [n_ 0,n_ 0] [(0,1),(1,1)]) [.val (n_ 15),s_ 45],oM 47 16 6,oM 48 5 8,oO 49 (.build [n_ 0,n_ 0,n_ 0,n_ 0,n_ 0,n_ 0,n_ 0,n_ 0,n_ 0,n_ 0,n_ 0,n_ 0,n_ 0,n_ 0,n_ 0,n_ 0,n_ 0,n_ 0,n_ 0,n_ 0,.str ⟨#[]⟩,.str ⟨#[]⟩,.str ⟨#[]⟩,.str ⟨#[]⟩,n_ 0,n_ 0,.str ⟨#[]⟩] [(0,2),(2,16),(18,1),(19,5)]) [s_ 46,s_ 47,.val (n_ 2),s_ 48],oO 9 (.allocL [n_ 0,n_ 0,n_ 0,n_ 0,n_ 0,n_ 0,n_ 0,n_ 0,n_ 0,n_ 0,n_ 0,n_ 0,n_ 0,n_ 0,n_ 0,n_ 0,n_ 0,n_ 0,n_ 0,n_ 0,.str ⟨#[]⟩,.str ⟨#[]⟩,.str ⟨#[]⟩,.str ⟨#[]⟩,n_ 0,n_ 0,.str ⟨#[]⟩]) [],oS 27 9 49] (oR [oO 50 (.ixaddrA 16 1) [s_ 6,.val (n_ 15)],oL 51 1 50,oC 52 .add 51 1,oO 53 (.ixaddrA 16 1) [s_ 6,.val (n_ 15)],oS 1 53 52] (oR [oO 54 (.ixaddrA 16 1) [s_ 6,.val (n_ 15)],oL 55 1 54,oC 56 .add 55 1,oO 57 (.build [n_ 0,n_ 0] [(0,1),(1,1)]) [.val (n_ 15),s_ 56],oM 58 16 6,oM 59 5 8,oO 60 (.build [n_ 0,n_ 0,n_ 0,n_ 0,n_ 0,n_ 0,n_ 0,n_ 0,n_ 0,n_ 0,n_ 0,n_ 0,n_ 0,n_ 0,n_ 0,n_ 0,n_ 0,n_ 0,n_ 0,n_ 0,.str ⟨#[]⟩,.str ⟨#[]⟩,.str ⟨#[]⟩,.str ⟨#[]⟩,n_ 0,n_ 0,.str ⟨#[]⟩] [(0,2),(2,16),(18,1),(19,5)]) [s_ 57,s_ 58,.val (n_ 1),s_ 59],oO 10 (.allocL [n_ 0,n_ 0,n_ 0,n_ 0,n_ 0,n_ 0,n_ 0,n_ 0,n_ 0,n_ 0,n_ 0,n_ 0,n_ 0,n_ 0,n_ 0,n_ 0,n_ 0,n_ 0,n_ 0,n_ 0,.str ⟨#[]⟩,.str ⟨#[]⟩,.str ⟨#[]⟩,.str ⟨#[]⟩,n_ 0,n_ 0,.str ⟨#[]⟩]) [],oS 27 10 60] (oR [oO 61 (.buildSl 27 0 (.agg [n_ 0,n_ 0,n_ 0,n_ 0,n_ 0,n_ 0,n_ 0,n_ 0,n_ 0,n_ 0,n_ 0,n_ 0,n_ 0,n_ 0,n_ 0,n_ 0,n_ 0,n_ 0,n_ 0,n_ 0,.str ⟨#[]⟩,.str ⟨#[]⟩,.str ⟨#[]⟩,.str ⟨#[]⟩,n_ 0,n_ 0,.str ⟨#[]⟩]) []) [],oI 62 5,oO 63 (.append 36 27 256) [s_ 61,s_ 62],oK 9 (oM 64 27 9),oO 65 (.buildSl 27 1 (.agg [n_ 0,n_ 0,n_ 0,n_ 0,n_ 0,n_ 0,n_ 0,n_ 0,n_ 0,n_ 0,n_ 0,n_ 0,n_ 0,n_ 0,n_ 0,n_ 0,n_ 0,n_ 0,n_ 0,n_ 0,.str ⟨#[]⟩,.str ⟨#[]⟩,.str ⟨#[]⟩,.str ⟨#[]⟩,n_ 0,n_ 0,.str ⟨#[]⟩]) [0]) [s_ 64],oO 66 (.append 36 27 256) [s_ 63,s_ 65],oO 67 (.call zmc) [s_ 66],oI 11 67] (oR [oO 68 (.buildSl 27 0 (.agg [n_ 0,n_ 0,n_ 0,n_ 0,n_ 0,n_ 0,n_ 0,n_ 0,n_ 0,n_ 0,n_ 0,n_ 0,n_ 0,n_ 0,n_ 0,n_ 0,n_ 0,n_ 0,n_ 0,n_ 0,.str ⟨#[]⟩,.str ⟨#[]⟩,.str ⟨#[]⟩,.str ⟨#[]⟩,n_ 0,n_ 0,.str ⟨#[]⟩]) []) [],oI 69 5,oO 70 (.append 36 27 256) [s_ 68,s_ 69],oK 9 (oM 71 27 9),oK 10 (oM 72 27 10),oO 73 (.buildSl 27 2 (.agg [n_ 0,n_ 0,n_ 0,n_ 0,n_ 0,n_ 0,n_ 0,n_ 0,n_ 0,n_ 0,n_ 0,n_ 0,n_ 0,n_ 0,n_ 0,n_ 0,n_ 0,n_ 0,n_ 0,n_ 0,.str ⟨#[]⟩,.str ⟨#[]⟩,.str ⟨#[]⟩,.str ⟨#[]⟩,n_ 0,n_ 0,.str ⟨#[]⟩]) [0,1]) [s_ 71,s_ 72],oO 74 (.append 36 27 256) [s_ 70,s_ 73],oO 75 (.call zmc) [s_ 74],oI 12 75] (.seq (oR [oI 76 11,oO 77 (.call zoG) [s_ 76],oO 78 .lensl [s_ 77],oV 79 (n_ 0)] (.block 0 (.loop zq5))) (oR [oI 94 11,oI 95 1,oO 96 (.call zoF) [s_ 94,s_ 95],oO 97 (.un .not) [s_ 96],oI 98 97,oG 98 (oI 99 11),oG 98 (oI 100 1),oG 98 (oO 101 (.call zuS) [s_ 99,s_ 100]),oG 98 (oO 102 .lensl [s_ 101]),oG 98 (oC 103 .eql 102 0),oP 104 98 103,oI 105 104,oG 105 (oI 106 12),oG 105 (oO 107 (.call zmd) [s_ 106]),oG 105 (oI 108 7),oG 105 (oO 109 (.call zmd) [s_ 108]),oG 105 (oO 110 (.call zuR) [s_ 107,s_ 109]),oP 111 105 110,oI 4 111] .ret)))))))))))))
def zq6:IFun:=⟨112,[.slot 4],zzD,6,0,zbd⟩
theorem zc7:zbi Tryz.prog [1048582,1048584,1048585,1048586,1048590,2097174,2097182,2097183,2097184,2097178,2097177] 0 zkJ=some zq6:=by kernel_rfl
def zzE:ICode:=oR [oO 1 .boxL [s_ 0],oV 2 (.bool false)] (oR [oF 3 19 1,oF 4 1 3,oL 5 1 4,oO 6 .lenstr [s_ 5],oF 7 19 1,oF 8 2 7,oL 9 1 8,oO 10 .lenstr [s_ 9],oB 11 .add 6 10,oF 12 19 1,oF 13 3 12,oL 14 1 13,oO 15 .lenstr [s_ 14],oB 16 .add 11 15,oF 17 19 1,oF 18 4 17,oL 19 1 18,oO 20 .lenstr [s_ 19],oB 21 .add 16 20,oF 22 24 1,oF 23 2 22,oL 24 1 23,oO 25 .lenstr [s_ 24],oB 26 .add 21 25,oC 27 .leq 26 300,oI 2 27] .ret)
def zq7:IFun:=⟨28,[.slot 2],zzE,6,0,zbd⟩
theorem zd6:zbi Tryz.prog [1048577] 0 zuO=some zq7:=by kernel_rfl
def ziD:ICode:=oR [oO 1 .boxL [s_ 0],oV 2 (.bool false)] (.seq (oR [oF 5 0 1,oL 6 1 5] (.block 0 (oR [oC 8 .eql 6 0,oI 7 8] (.cond (s_ 7) (oR [oF 9 1 1,oL 10 1 9,oC 11 .eql 10 0,oI 12 11,oG 12 (oF 13 2 1),oG 12 (oL 14 1 13),oG 12 (oO 15 (.bin .eql) [s_ 14,.val (.str ⟨#[]⟩)]),oP 16 12 15,oI 2 16] .ret) (oR [oC 18 .eql 6 1,oI 17 18] (.cond (s_ 17) (oR [oF 19 1 1,oL 20 1 19,oC 21 .eql 20 0,oI 22 21,oH 22 (oF 23 1 1),oH 22 (oL 24 1 23),oH 22 (oC 25 .eql 24 1),oQ 26 22 25,oI 27 26,oG 27 (oF 28 2 1),oG 27 (oL 29 1 28),oG 27 (oO 30 (.bin .eql) [s_ 29,.val (.str ⟨#[]⟩)]),oP 31 27 30,oI 2 31] .ret) (oR [oC 33 .eql 6 2,oI 32 33] (.cond (s_ 32) (oR [oF 34 1 1,oL 35 1 34,oC 36 .geq 35 (-1099511627776),oI 37 36,oG 37 (oF 38 1 1),oG 37 (oL 39 1 38),oG 37 (oC 40 .leq 39 1099511627776),oP 41 37 40,oI 42 41,oG 42 (oF 43 2 1),oG 42 (oL 44 1 43),oG 42 (oO 45 (.bin .eql) [s_ 44,.val (.str ⟨#[]⟩)]),oP 46 42 45,oI 2 46] .ret) (oR [oC 48 .eql 6 3,oI 47 48] (.cond (s_ 47) (oR [oF 49 1 1,oL 50 1 49,oC 51 .eql 50 0,oI 52 51,oG 52 (oF 53 2 1),oG 52 (oL 54 1 53),oG 52 (oO 55 (.call zuT) [s_ 54]),oP 56 52 55,oI 2 56] .ret) (oR [oC 58 .eql 6 4,oI 57 58] (.cond (s_ 57) (oR [oF 59 1 1,oL 60 1 59,oC 61 .eql 60 0,oI 62 61,oG 62 (oF 63 2 1),oG 62 (oL 64 1 63),oG 62 (oO 65 (.call zgY) [s_ 64]),oP 66 62 65,oI 2 66] .ret) (oR [oC 68 .eql 6 5,oI 67 68] (oT 67 (oR [oF 70 2 1,oL 71 1 70,oO 72 (.call zqT) [s_ 71],oI 69 72,oO 73 (.extract 0) [s_ 69],oO 74 (.extract 1) [s_ 69],oO 3 (.allocL [.str ⟨#[]⟩,.str ⟨#[]⟩,.str ⟨#[]⟩]) [],oS 3 3 73,oI 4 74] (oR [oF 75 1 1,oL 76 1 75,oC 77 .eql 76 0,oI 78 77,oG 78 (oI 79 4),oP 80 78 79,oI 2 80] .ret)))))))))))))))) (oR [oV 2 (.bool false)] .ret))
def zgf:IFun:=⟨81,[.slot 2],ziD,6,0,zbd⟩
theorem zd7:zbi Tryz.prog [1048577,1048579,2097201] 0 zuP=some zgf:=by kernel_rfl
def zq8:ICode:=oR [oC 32 .lss 31 16] (.seq (oE 32 2) (.seq (.block 3 (oR [oI 33 31,oI 9 33] (.region [oI 34 8,oI 35 34,oG 35 (oI 36 9),oG 35 (oF 37 2 7),oG 35 (oO 38 (.ixaddrA 16 1) [s_ 37,s_ 36]),oK 7 (oG 35 (oL 39 1 38)),oG 35 (oI 40 9),oG 35 (oO 41 (.ixaddrA 16 1) [s_ 5,s_ 40]),oK 5 (oG 35 (oL 42 1 41)),oG 35 (oB 43 .leq 39 42),oP 44 35 43,oI 8 44]))) (.region [oC 45 .add 31 1,oI 31 45])))
def zq9:ICode:=oR [oB 13 .lss 12 11] (.seq (oE 13 0) (.seq (.block 1 (oR [oX 14 27 10 12,oM 15 27 14,oO 7 (.allocL [n_ 0,n_ 0,n_ 0,n_ 0,n_ 0,n_ 0,n_ 0,n_ 0,n_ 0,n_ 0,n_ 0,n_ 0,n_ 0,n_ 0,n_ 0,n_ 0,n_ 0,n_ 0,n_ 0,n_ 0,.str ⟨#[]⟩,.str ⟨#[]⟩,.str ⟨#[]⟩,.str ⟨#[]⟩,n_ 0,n_ 0,.str ⟨#[]⟩]) [],oS 27 7 15] (.seq (oR [oK 7 (oM 16 27 7),oO 17 (.call zuU) [s_ 16],oO 18 (.un .not) [s_ 17],oI 19 18,oH 19 (oF 20 0 7),oH 19 (oF 21 0 20),oK 7 (oH 19 (oL 22 1 21)),oH 19 (oO 23 (.ixaddrA 16 1) [s_ 5,s_ 22]),oK 5 (oH 19 (oL 24 1 23)),oH 19 (oF 25 0 7),oH 19 (oF 26 1 25),oK 7 (oH 19 (oL 27 1 26)),oH 19 (oC 28 .sub 27 1),oH 19 (oB 29 .neq 24 28),oQ 30 19 29] (oT 30 (.exit 1))) (oR [oV 8 (.bool true)] (.seq (oR [oV 31 (n_ 0)] (.block 2 (.loop zq8))) (oR [oI 46 8] (oT 46 (oR [oI 47 4,oM 48 27 7,oO 49 (.buildSl 27 1 (.agg [n_ 0,n_ 0,n_ 0,n_ 0,n_ 0,n_ 0,n_ 0,n_ 0,n_ 0,n_ 0,n_ 0,n_ 0,n_ 0,n_ 0,n_ 0,n_ 0,n_ 0,n_ 0,n_ 0,n_ 0,.str ⟨#[]⟩,.str ⟨#[]⟩,.str ⟨#[]⟩,.str ⟨#[]⟩,n_ 0,n_ 0,.str ⟨#[]⟩]) [0]) [s_ 48],oO 50 (.append 36 27 256) [s_ 47,s_ 49],oI 4 50] (.region [oF 51 0 7,oF 52 0 51,oL 53 1 52,oF 54 0 7,oF 55 1 54,oL 56 1 55,oO 57 (.ixaddrA 16 1) [s_ 5,s_ 53],oS 1 57 56]))))))))) (.region [oC 58 .add 12 1,oI 12 58])))
def zzF:ICode:=oR [oV 2 .nilsl,oO 3 (.allocL [n_ 0,n_ 0,n_ 0,n_ 0,n_ 0,n_ 0,n_ 0,n_ 0,n_ 0,n_ 0,n_ 0,n_ 0,n_ 0,n_ 0,n_ 0,n_ 0]) []] (oR [oV 4 .nilsl] (oR [oO 5 (.allocL [n_ 0,n_ 0,n_ 0,n_ 0,n_ 0,n_ 0,n_ 0,n_ 0,n_ 0,n_ 0,n_ 0,n_ 0,n_ 0,n_ 0,n_ 0,n_ 0]) []] (.seq (oR [oI 10 0,oO 11 .lensl [s_ 10],oV 12 (n_ 0)] (.block 0 (.loop zq9))) (oR [oI 59 4,oK 5 (oM 60 16 5),oI 2 59,oK 3 (oS 16 3 60)] .ret))))
def zra:IFun:=⟨61,[.slot 2,.cell 3 16 true],zzF,6,0,zbd⟩
theorem zdX:zbi Tryz.prog [1048579,1048581,1048583] 0 zqQ=some zra:=by kernel_rfl
def zzG:ICode:=oR [oV 0 .nilptr] (oR [oO 1 (.mkmap true [(.int .i64),.str,.str,.str,.str]) [],oO 2 (.build [.nilmap] [(0,1)]) [s_ 1],oO 3 (.boxH 92) [s_ 2],oI 0 3] .ret)
def zrb:IFun:=⟨4,[.slot 0],zzG,6,0,zbd⟩
theorem zmi:zbi Tryz.prog [3] 0 zoE=some zrb:=by kernel_rfl
def zzH:ICode:=oR [oO 3 (.boxH 36) [s_ 1],oV 4 (n_ 0)] (.seq (oR [oI 9 0,oO 10 (.eq1 false .ptr) [s_ 9,.val .nilptr],oI 11 10,oH 11 (oM 12 27 3),oH 11 (oO 13 (.call zBN) [s_ 12]),oH 11 (oC 14 .neq 13 0),oQ 15 11 14] (oT 15 (oR [oV 4 (n_ 1)] .ret))) (oR [oI 16 0,oO 17 .nilchk [s_ 16],oF 18 0 17,⟨some 19,none,.load 1 false,[s_ 18],(some (.heap))⟩,oF 20 19 3,⟨some 21,none,.load 5 true,[s_ 20],(some (.heap))⟩,oO 22 (.mlook true [(.int .i64),.str,.str,.str,.str] .nilsl false) [s_ 19,s_ 21],oO 5 .freeze [s_ 22]] (.seq (oR [oF 23 18 3,oL 24 1 23,oC 25 .neq 24 1] (oT 25 (.region [oI 26 5,oO 27 (.call ziB) [s_ 26],oO 28 (.mkfunc zuV 0) [s_ 3],oO 29 (.call zme) [s_ 27,s_ 28],oO 5 .freeze [s_ 29]]))) (.seq (oR [oF 30 18 3,oL 31 1 30,oC 32 .eql 31 1,oI 33 32,oH 33 (oF 34 18 3),oH 33 (oL 35 1 34),oH 33 (oC 36 .eql 35 3),oQ 37 33 36] (oT 37 (oR [oF 38 0 3,oM 39 2 38,oF 40 24 3,oM 41 3 40,oO 42 (.build [n_ 0,n_ 0,n_ 0,n_ 0,.str ⟨#[]⟩] [(0,2),(2,3)]) [s_ 39,s_ 41],oO 6 (.allocL [n_ 0,n_ 0,n_ 0,n_ 0,.str ⟨#[]⟩]) [],oS 5 6 42] (oR [oI 44 5,oM 45 5 6,oO 46 (.call zmf) [s_ 44,s_ 45,.val (.func 57 [] [])],oI 43 46,oO 47 (.extract 0) [s_ 43],oO 48 (.extract 1) [s_ 43],oI 7 47,oI 8 48] (.region [oI 49 5,oO 50 (.call ziB) [s_ 49],oI 51 7,oK 6 (oM 52 5 6),oO 53 (.buildSl 5 1 (.agg [n_ 0,n_ 0,n_ 0,n_ 0,.str ⟨#[]⟩]) [0]) [s_ 52],oO 54 (.call zuX) [s_ 50,s_ 51,s_ 53],oO 5 .freeze [s_ 54]]))))) (oR [oI 55 0,oF 56 19 3,oM 57 5 56,oI 58 5,oO 59 (.call zqU) [s_ 55,s_ 57,s_ 58]] (oR [oV 4 (n_ 0)] .ret))))))
def zrc:IFun:=⟨60,[.slot 4],zzH,6,0,zbd⟩
theorem zgZ:zbi Tryz.prog [3,1048582,8388613] 0 zhu=some zrc:=by kernel_rfl
def zrd:ICode:=oR [oB 20 .lss 19 18] (.seq (oE 20 0) (.seq (.block 1 (oR [oX 21 6 17 19,oM 22 6 21,oO 5 (.allocL [n_ 0,.str ⟨#[]⟩,.str ⟨#[]⟩,.str ⟨#[]⟩,.str ⟨#[]⟩,.nilsl]) [],oS 6 5 22] (.region [oI 23 3,oI 24 0,oF 25 0 5,oM 26 5 25,oO 27 (.call zeK) [s_ 23,s_ 24,s_ 26]]))) (.region [oC 28 .add 19 1,oI 19 28])))
def zre:ICode:=oR [oB 40 .lss 39 38] (.seq (oE 40 2) (.seq (.block 3 (oR [oX 41 3 37 39,oM 42 3 41,oO 7 (.allocL [.str ⟨#[]⟩,.str ⟨#[]⟩,.str ⟨#[]⟩]) [],oS 3 7 42] (oR [oI 43 3,oO 44 .nilchk [s_ 43],oF 45 3 44,⟨some 46,none,.load 1 false,[s_ 45],(some (.heap))⟩,oF 47 0 7,oK 7 (oL 48 1 47),oI 49 3,oO 50 .nilchk [s_ 49],oF 51 3 50,⟨some 52,none,.load 1 false,[s_ 51],(some (.heap))⟩,oF 53 0 7,oK 7 (oL 54 1 53),oO 55 (.mlook false [.str] .nilsl false) [s_ 52,s_ 54],oK 7 (oM 56 3 7),oO 57 (.buildSl 3 1 (.agg [.str ⟨#[]⟩,.str ⟨#[]⟩,.str ⟨#[]⟩]) [0]) [s_ 56],oO 58 (.appendT 73 3 48) [s_ 55,s_ 57],⟨none,none,.mset false [.str],[s_ 46,s_ 48,s_ 58],none⟩] (.region [oI 59 3,oO 60 .nilchk [s_ 59],oF 61 4 60,⟨some 62,none,.load 1 false,[s_ 61],(some (.heap))⟩,oF 63 1 7,oK 7 (oL 64 1 63),oI 65 3,oO 66 .nilchk [s_ 65],oF 67 4 66,⟨some 68,none,.load 1 false,[s_ 67],(some (.heap))⟩,oF 69 1 7,oK 7 (oL 70 1 69),oO 71 (.mlook false [.str] .nilsl false) [s_ 68,s_ 70],oK 7 (oM 72 3 7),oO 73 (.buildSl 3 1 (.agg [.str ⟨#[]⟩,.str ⟨#[]⟩,.str ⟨#[]⟩]) [0]) [s_ 72],oO 74 (.appendT 73 3 48) [s_ 71,s_ 73],⟨none,none,.mset false [.str],[s_ 62,s_ 64,s_ 74],none⟩])))) (.region [oC 75 .add 39 1,oI 39 75])))
def zzI:ICode:=oR [oV 2 .nilptr] (oR [oO 8 (.mkmap false [.str]) [],oO 9 (.mkmap false [.str]) [],oO 10 (.mkmap false [.str]) [],oO 11 (.mkmap true [(.int .i64),.str,.str,.str,.str]) [],oO 12 (.mkmap true [(.int .i64),.str,.str,.str,.str]) [],oO 13 (.mkmap true [(.int .i64),.str,.str,.str,.str]) [],oO 14 (.build [.nilsl,.nilsl,.nilmap,.nilmap,.nilmap,.nilmap,.nilmap,.nilmap] [(2,1),(3,1),(4,1),(5,1),(6,1),(7,1)]) [s_ 8,s_ 9,s_ 10,s_ 11,s_ 12,s_ 13],oO 15 (.boxH 111) [s_ 14],oI 3 15] (.seq (oR [oI 16 0,oO 17 (.call zzC) [s_ 16],oO 18 .lensl [s_ 17],oV 19 (n_ 0)] (.block 0 (.loop zrd))) (oR [oI 29 3,oO 30 .nilchk [s_ 29],oF 31 1 30,oL 32 1 31,oO 33 (.call zuY) [s_ 32,.val (.func 63 [] [])]] (.seq (oR [oI 34 3,oO 35 .nilchk [s_ 34],oF 36 1 35,oO 37 .loadF [s_ 36],oO 38 .lensl [s_ 37],oV 39 (n_ 0)] (.block 2 (.loop zre))) (oR [oI 76 3,oI 2 76] .ret)))))
def zrf:IFun:=⟨77,[.slot 2],zzI,6,0,zbd⟩
theorem zoL:zbi Tryz.prog [15,1048581,1048583,33554432,8388645] 0 zmb=some zrf:=by kernel_rfl
def zCn:ICode:=oR [oV 0 (.bool false)] (oR [oO 7 (.call zoE) [],oI 1 7] (oR [oI 8 1,oO 9 (.build [n_ 0,n_ 0] [(1,1)]) [.val (n_ 1)],oO 10 (.build [n_ 0,.str ⟨#[]⟩,.str ⟨#[]⟩,.str ⟨#[]⟩,.str ⟨#[]⟩] [(0,1),(1,1)]) [.val (n_ 1),.val (.str ⟨#[97]⟩)],oO 11 (.build [n_ 0,n_ 0,n_ 0,n_ 0,n_ 0,n_ 0,n_ 0,n_ 0,n_ 0,n_ 0,n_ 0,n_ 0,n_ 0,n_ 0,n_ 0,n_ 0,n_ 0,n_ 0,n_ 0,n_ 0,.str ⟨#[]⟩,.str ⟨#[]⟩,.str ⟨#[]⟩,.str ⟨#[]⟩,n_ 0,n_ 0,.str ⟨#[]⟩] [(0,2),(18,1),(19,5)]) [s_ 9,.val (n_ 1),s_ 10],oO 12 (.call zhu) [s_ 8,s_ 11]] (oR [oI 13 1,oO 14 (.build [n_ 0,n_ 0] [(1,1)]) [.val (n_ 2)],oO 15 (.build [n_ 0,n_ 0,n_ 0,n_ 0,n_ 0,n_ 0,n_ 0,n_ 0,n_ 0,n_ 0,n_ 0,n_ 0,n_ 0,n_ 0,n_ 0,n_ 0] [(0,1)]) [.val (n_ 1)],oO 16 (.build [n_ 0,.str ⟨#[]⟩,.str ⟨#[]⟩,.str ⟨#[]⟩,.str ⟨#[]⟩] [(0,1),(1,1),(4,1)]) [.val (n_ 2),.val (.str ⟨#[97]⟩),.val (.str ⟨#[80]⟩)],oO 17 (.build [n_ 0,n_ 0,n_ 0,n_ 0,n_ 0,n_ 0,n_ 0,n_ 0,n_ 0,n_ 0,n_ 0,n_ 0,n_ 0,n_ 0,n_ 0,n_ 0,n_ 0,n_ 0,n_ 0,n_ 0,.str ⟨#[]⟩,.str ⟨#[]⟩,.str ⟨#[]⟩,.str ⟨#[]⟩,n_ 0,n_ 0,.str ⟨#[]⟩] [(0,2),(2,16),(18,1),(19,5)]) [s_ 14,s_ 15,.val (n_ 1),s_ 16],oO 18 (.call zhu) [s_ 13,s_ 17]] (oR [oI 19 1,oO 20 (.build [n_ 0,n_ 0] [(1,1)]) [.val (n_ 3)],oO 21 (.build [n_ 0,n_ 0,n_ 0,n_ 0,n_ 0,n_ 0,n_ 0,n_ 0,n_ 0,n_ 0,n_ 0,n_ 0,n_ 0,n_ 0,n_ 0,n_ 0] [(0,1)]) [.val (n_ 2)],oO 22 (.build [n_ 0,.str ⟨#[]⟩,.str ⟨#[]⟩,.str ⟨#[]⟩,.str ⟨#[]⟩] [(0,1),(1,1),(2,1),(3,1)]) [.val (n_ 3),.val (.str ⟨#[97]⟩),.val (.str ⟨#[98]⟩),.val (.str ⟨#[75]⟩)],oO 23 (.build [n_ 0,n_ 0,n_ 0,n_ 0,n_ 0,n_ 0,n_ 0,n_ 0,n_ 0,n_ 0,n_ 0,n_ 0,n_ 0,n_ 0,n_ 0,n_ 0,n_ 0,n_ 0,n_ 0,n_ 0,.str ⟨#[]⟩,.str ⟨#[]⟩,.str ⟨#[]⟩,.str ⟨#[]⟩,n_ 0,n_ 0,.str ⟨#[]⟩] [(0,2),(2,16),(18,1),(19,5)]) [s_ 20,s_ 21,.val (n_ 1),s_ 22],oO 24 (.call zhu) [s_ 19,s_ 23]] (oR [oI 25 1,oO 26 (.call zmb) [s_ 25],oI 2 26] (oR [oI 27 2,oO 28 (.call zoG) [s_ 27],oO 29 .lensl [s_ 28],oI 3 29] (oR [oI 30 1,oO 31 (.build [n_ 0,n_ 0] [(1,1)]) [.val (n_ 4)],oO 32 (.build [n_ 0,n_ 0,n_ 0,n_ 0,n_ 0,n_ 0,n_ 0,n_ 0,n_ 0,n_ 0,n_ 0,n_ 0,n_ 0,n_ 0,n_ 0,n_ 0] [(0,1)]) [.val (n_ 3)],oO 33 (.build [n_ 0,.str ⟨#[]⟩,.str ⟨#[]⟩,.str ⟨#[]⟩,.str ⟨#[]⟩] [(0,1),(1,1)]) [.val (n_ 1),.val (.str ⟨#[98]⟩)],oO 34 (.build [n_ 0,n_ 0,n_ 0,n_ 0,n_ 0,n_ 0,n_ 0,n_ 0,n_ 0,n_ 0,n_ 0,n_ 0,n_ 0,n_ 0,n_ 0,n_ 0,n_ 0,n_ 0,n_ 0,n_ 0,.str ⟨#[]⟩,.str ⟨#[]⟩,.str ⟨#[]⟩,.str ⟨#[]⟩,n_ 0,n_ 0,.str ⟨#[]⟩] [(0,2),(2,16),(18,1),(19,5)]) [s_ 31,s_ 32,.val (n_ 1),s_ 33],oO 35 (.call zhu) [s_ 30,s_ 34]] (oR [oI 36 1,oO 37 (.call zmb) [s_ 36],oI 4 37] (oR [oI 38 4,oO 39 (.call zmd) [s_ 38],oI 5 39] (oR [oV 6 .nilptr] (oR [oI 40 2,oO 41 (.call zoF) [s_ 40,.val (.str ⟨#[97]⟩)],oI 42 41,oG 42 (oI 43 3),oG 42 (oC 44 .eql 43 0),oP 45 42 44,oI 46 45,oG 46 (oI 47 4),oG 46 (oO 48 (.build [.str ⟨#[]⟩,.str ⟨#[]⟩,.str ⟨#[]⟩] [(0,1),(1,1),(2,1)]) [.val (.str ⟨#[97]⟩),.val (.str ⟨#[98]⟩),.val (.str ⟨#[75]⟩)]),oG 46 (oO 49 (.call zzB) [s_ 47,s_ 48]),oP 50 46 49,oI 51 50,oG 51 (oI 52 5),oG 51 (oO 53 .lensl [s_ 52]),oG 51 (oC 54 .eql 53 3),oP 55 51 54,oI 56 55,oG 56 (oI 57 5),oG 56 (oO 58 (.ixaddr 1) [s_ 57,.val (n_ 0)]),oG 56 (oL 59 1 58),oG 56 (oO 60 (.bin .eql) [s_ 59,.val (.str ⟨#[110,111,100,101,32,97,32,80]⟩)]),oP 61 56 60,oI 62 61,oG 62 (oI 63 5),oG 62 (oO 64 (.ixaddr 1) [s_ 63,.val (n_ 2)]),oG 62 (oL 65 1 64),oG 62 (oO 66 (.bin .eql) [s_ 65,.val (.str ⟨#[101,100,103,101,32,97,32,75,32,98]⟩)]),oP 67 62 66,oI 68 67,oG 68 (oI 69 6),oG 68 (oO 70 (.call zqS) [s_ 69]),oG 68 (oO 71 .lensl [s_ 70]),oG 68 (oC 72 .eql 71 0),oP 73 68 72,oI 74 73,oG 74 (oO 75 (.call ziC) [.val (.str ⟨#[97]⟩)]),oG 74 (oO 76 (.build [n_ 0,.str ⟨#[]⟩,.str ⟨#[]⟩,.str ⟨#[]⟩,.str ⟨#[]⟩] [(0,1),(1,1)]) [.val (n_ 1),.val (.str ⟨#[97]⟩)]),oG 74 (oO 77 (.eqv false [(.int .i64),.str,.str,.str,.str]) [s_ 75,s_ 76]),oP 78 74 77,oI 79 78,oG 79 (oO 80 (.build [.str ⟨#[]⟩,.str ⟨#[]⟩,.str ⟨#[]⟩] [(0,1),(1,1),(2,1)]) [.val (.str ⟨#[97]⟩),.val (.str ⟨#[98]⟩),.val (.str ⟨#[75]⟩)]),oG 79 (oO 81 (.call zmg) [s_ 80]),oG 79 (oO 82 (.build [n_ 0,.str ⟨#[]⟩,.str ⟨#[]⟩,.str ⟨#[]⟩,.str ⟨#[]⟩] [(0,1),(1,1),(2,1),(3,1)]) [.val (n_ 3),.val (.str ⟨#[97]⟩),.val (.str ⟨#[98]⟩),.val (.str ⟨#[75]⟩)]),oG 79 (oO 83 (.eqv false [(.int .i64),.str,.str,.str,.str]) [s_ 81,s_ 82]),oP 84 79 83,oI 0 84] .ret)))))))))))
def zzJ:IFun:=⟨85,[.slot 0],zCn,6,2,zbd⟩
theorem zd8:zbi Tryz.prog [2097183,2097178,2097182,2097192,2097180,2097229,2097230] 2 zuQ=some zzJ:=by kernel_rfl
def zw2:ICode:=oR [oB 8 .lss 7 6] (.seq (oE 8 0) (.seq (.block 1 (oR [oX 9 27 5 7,oM 10 27 9,oO 4 (.allocL [n_ 0,n_ 0,n_ 0,n_ 0,n_ 0,n_ 0,n_ 0,n_ 0,n_ 0,n_ 0,n_ 0,n_ 0,n_ 0,n_ 0,n_ 0,n_ 0,n_ 0,n_ 0,n_ 0,n_ 0,.str ⟨#[]⟩,.str ⟨#[]⟩,.str ⟨#[]⟩,.str ⟨#[]⟩,n_ 0,n_ 0,.str ⟨#[]⟩]) [],oS 27 4 10] (oR [oM 11 27 4,oO 12 (.call zuO) [s_ 11],oO 13 (.un .not) [s_ 12]] (oT 13 (oR [oV 2 (.bool false)] .ret))))) (.region [oC 14 .add 7 1,oI 7 14])))
def zzK:ICode:=oR [oV 2 (.bool false)] (.seq (oR [oI 5 0,oO 6 .lensl [s_ 5],oV 7 (n_ 0)] (.block 0 (.loop zw2))) (oR [oI 15 0,oO 16 .lensl [s_ 15],oC 17 .leq 16 50,oI 2 17] .ret))
def zrg:IFun:=⟨18,[.slot 2],zzK,6,0,zbd⟩
theorem ze4:zbi Tryz.prog [1048580] 0 zqR=some zrg:=by kernel_rfl
def zrh:ICode:=oR [oB 10 .lss 9 8] (.seq (oE 10 0) (.seq (.block 1 (oR [oX 11 27 7 9,oM 12 27 11,oO 5 (.allocL [n_ 0,n_ 0,n_ 0,n_ 0,n_ 0,n_ 0,n_ 0,n_ 0,n_ 0,n_ 0,n_ 0,n_ 0,n_ 0,n_ 0,n_ 0,n_ 0,n_ 0,n_ 0,n_ 0,n_ 0,.str ⟨#[]⟩,.str ⟨#[]⟩,.str ⟨#[]⟩,.str ⟨#[]⟩,n_ 0,n_ 0,.str ⟨#[]⟩]) [],oS 27 5 12] (.region [oI 13 3,oM 14 27 5,oO 15 (.call zhu) [s_ 13,s_ 14]]))) (.region [oC 16 .add 9 1,oI 9 16])))
def zzL:ICode:=oR [oV 2 .nilptr] (oR [oO 6 (.call zoE) [],oI 3 6] (.seq (oR [oI 7 0,oO 8 .lensl [s_ 7],oV 9 (n_ 0)] (.block 0 (.loop zrh))) (oR [oI 17 3,oO 18 (.call zmb) [s_ 17],oI 2 18] .ret)))
def zri:IFun:=⟨19,[.slot 2],zzL,6,0,zbd⟩
theorem zeL:zbi Tryz.prog [1048581] 0 zmc=some zri:=by kernel_rfl
def zw3:ICode:=oR [oB 14 .lss 13 12] (.seq (oE 14 0) (.seq (.block 1 (oR [oI 15 13,oI 5 15] (oR [oI 16 0,oI 17 5,oX 18 1 16 17,⟨some 19,none,.load 1 false,[s_ 18],(some (.el))⟩,oI 20 1,oI 21 5,oX 22 1 20 21,⟨some 23,none,.load 1 false,[s_ 22],(some (.el))⟩,oB 24 .neq 19 23] (oT 24 (oR [oV 4 (.bool false)] .ret))))) (.region [oC 25 .add 13 1,oI 13 25])))
def zzM:ICode:=oR [oV 4 (.bool false)] (.seq (oR [oI 6 0,oO 7 .lensl [s_ 6],oI 8 1,oO 9 .lensl [s_ 8],oB 10 .neq 7 9] (oT 10 (oR [oV 4 (.bool false)] .ret))) (.seq (oR [oI 11 0,oO 12 .lensl [s_ 11],oV 13 (n_ 0)] (.block 0 (.loop zw3))) (oR [oV 4 (.bool true)] .ret)))
def zrj:IFun:=⟨26,[.slot 4],zzM,6,1,zbd⟩
theorem zeM:zbi Tryz.prog [] 1 zuR=some zrj:=by kernel_rfl
def zrk:ICode:=oR [oB 41 .lss 40 39] (.seq (oE 41 2) (.seq (.block 3 (oR [oX 42 1 38 40,oL 43 1 42,oI 7 43] (.region [oI 44 3,oI 45 0,oI 46 5,oI 47 7,oO 48 (.buildSl 1 3 (.str ⟨#[]⟩) [0,1,2]) [.val (.str ⟨#[112,114,111,112]⟩),s_ 46,s_ 47],oI 49 5,oI 50 7,oO 51 (.build [n_ 0,.str ⟨#[]⟩,.str ⟨#[]⟩,.str ⟨#[]⟩,.str ⟨#[]⟩] [(0,1),(1,1),(4,1)]) [.val (n_ 4),s_ 49,s_ 50],oO 52 (.call zqW) [s_ 45,s_ 48,s_ 51],oO 53 (.buildSl 1 1 (.str ⟨#[]⟩) [0]) [s_ 52],oO 54 (.append 9 1 16) [s_ 44,s_ 53],oI 3 54]))) (.region [oC 55 .add 40 1,oI 40 55])))
def zrl:ICode:=oR [oB 16 .lss 15 14] (.seq (oE 16 0) (.seq (.block 1 (oR [oX 17 1 13 15,oL 18 1 17,oI 5 18] (oR [oI 19 3,oI 20 5,oO 21 (.buildSl 1 2 (.str ⟨#[]⟩) [0,1]) [.val (.str ⟨#[110,111,100,101]⟩),s_ 20],oI 22 0,oO 23 .nilchk [s_ 22],oF 24 2 23,oL 25 1 24,oI 26 5,oO 27 (.mlook false [.str] .nilsl false) [s_ 25,s_ 26],oO 28 (.append 9 1 16) [s_ 21,s_ 27],oO 29 (.call zjJ) [s_ 28,.val (.str ⟨#[32]⟩)],oO 30 (.buildSl 1 1 (.str ⟨#[]⟩) [0]) [s_ 29],oO 31 (.append 9 1 16) [s_ 19,s_ 30],oI 3 31] (oR [oI 32 0,oO 33 .nilchk [s_ 32],oF 34 6 33,⟨some 35,none,.load 1 false,[s_ 34],(some (.heap))⟩,oI 36 5,oO 37 (.callP ziC) [s_ 36],oO 38 (.mlook true [(.int .i64),.str,.str,.str,.str] .nilsl false) [s_ 35,s_ 37],oO 39 .lensl [s_ 38],oV 40 (n_ 0)] (.block 2 (.loop zrk)))))) (.region [oC 56 .add 15 1,oI 15 56])))
def zrm:ICode:=oR [oB 84 .lss 83 82] (.seq (oE 84 6) (.seq (.block 7 (oR [oX 85 1 81 83,oL 86 1 85,oI 11 86] (.region [oI 87 3,oI 88 0,oF 89 0 9,oL 90 1 89,oF 91 2 9,oL 92 1 91,oF 93 1 9,oL 94 1 93,oI 95 11,oO 96 (.buildSl 1 5 (.str ⟨#[]⟩) [0,1,2,3,4]) [.val (.str ⟨#[116,114,97,105,116]⟩),s_ 90,s_ 92,s_ 94,s_ 95],oF 97 0 9,oL 98 1 97,oF 99 1 9,oL 100 1 99,oF 101 2 9,oL 102 1 101,oI 103 11,oO 104 (.build [n_ 0,.str ⟨#[]⟩,.str ⟨#[]⟩,.str ⟨#[]⟩,.str ⟨#[]⟩] [(0,1),(1,1),(2,1),(3,1),(4,1)]) [.val (n_ 5),s_ 98,s_ 100,s_ 102,s_ 103],oO 105 (.call zqW) [s_ 88,s_ 96,s_ 104],oO 106 (.buildSl 1 1 (.str ⟨#[]⟩) [0]) [s_ 105],oO 107 (.append 9 1 16) [s_ 87,s_ 106],oI 3 107]))) (.region [oC 108 .add 83 1,oI 83 108])))
def zrn:ICode:=oR [oB 61 .lss 60 59] (.seq (oE 61 4) (.seq (.block 5 (oR [oX 62 3 58 60,oM 63 3 62,oO 9 (.allocL [.str ⟨#[]⟩,.str ⟨#[]⟩,.str ⟨#[]⟩]) [],oS 3 9 63] (oR [oI 64 3,oF 65 0 9,oL 66 1 65,oF 67 2 9,oL 68 1 67,oF 69 1 9,oL 70 1 69,oO 71 (.buildSl 1 4 (.str ⟨#[]⟩) [0,1,2,3]) [.val (.str ⟨#[101,100,103,101]⟩),s_ 66,s_ 68,s_ 70],oO 72 (.call zjJ) [s_ 71,.val (.str ⟨#[32]⟩)],oO 73 (.buildSl 1 1 (.str ⟨#[]⟩) [0]) [s_ 72],oO 74 (.append 9 1 16) [s_ 64,s_ 73],oI 3 74] (oR [oI 75 0,oO 76 .nilchk [s_ 75],oF 77 6 76,⟨some 78,none,.load 1 false,[s_ 77],(some (.heap))⟩,oK 9 (oM 79 3 9),oO 80 (.callP zmg) [s_ 79],oO 81 (.mlook true [(.int .i64),.str,.str,.str,.str] .nilsl false) [s_ 78,s_ 80],oO 82 .lensl [s_ 81],oV 83 (n_ 0)] (.block 6 (.loop zrm)))))) (.region [oC 109 .add 60 1,oI 60 109])))
def zzN:ICode:=oR [oV 2 .nilsl] (oR [oV 3 .nilsl] (.seq (oR [oI 12 0,oO 13 (.call zqS) [s_ 12],oO 14 .lensl [s_ 13],oV 15 (n_ 0)] (.block 0 (.loop zrl))) (.seq (oR [oI 57 0,oO 58 (.call zoG) [s_ 57],oO 59 .lensl [s_ 58],oV 60 (n_ 0)] (.block 4 (.loop zrn))) (oR [oI 110 3,oI 2 110] .ret))))
def zro:IFun:=⟨111,[.slot 2],zzN,6,1,zbd⟩
theorem zft:zbi Tryz.prog [1048585,2097180,2097231,2097229,2097232,2097183,2097230] 1 zmd=some zro:=by kernel_rfl
def zzO:ICode:=oR [oV 2 .nilsl] (.seq (oR [oI 3 0,oO 4 (.eq1 false .ptr) [s_ 3,.val .nilptr]] (oT 4 (oR [oV 2 .nilsl] .ret))) (oR [oI 5 0,oO 6 .nilchk [s_ 5],oF 7 0 6,oL 8 1 7,oO 9 (.call zqX) [s_ 8],oI 2 9] .ret))
def zrp:IFun:=⟨10,[.slot 2],zzO,6,1,zbd⟩
theorem zfu:zbi Tryz.prog [] 1 zqS=some zrp:=by kernel_rfl
def zzP:ICode:=oR [oV 4 (.bool false)] (oR [oI 5 0,oO 6 (.eq1 true .ptr) [s_ 5,.val .nilptr],oI 7 6,oG 7 (oI 8 0),oG 7 (oO 9 .nilchk [s_ 8]),oG 7 (oF 10 7 9),⟨some 11,(some (7,true)),.load 1 false,[s_ 10],(some (.heap))⟩,oG 7 (oI 12 1),oG 7 (oO 13 (.callP ziC) [s_ 12]),oG 7 (oO 14 (.mlook true [(.int .i64),.str,.str,.str,.str] (.bool false) false) [s_ 11,s_ 13]),oP 15 7 14,oI 4 15] .ret)
def zrq:IFun:=⟨16,[.slot 4],zzP,6,1,zbd⟩
theorem zg0:zbi Tryz.prog [2097229] 1 zoF=some zrq:=by kernel_rfl
def zzQ:ICode:=oR [oV 2 .nilsl] (.seq (oR [oI 3 0,oO 4 (.eq1 false .ptr) [s_ 3,.val .nilptr]] (oT 4 (oR [oV 2 .nilsl] .ret))) (oR [oI 5 0,oO 6 .nilchk [s_ 5],oF 7 1 6,oL 8 1 7,oO 9 (.call zuZ) [s_ 8],oI 2 9] .ret))
def zrr:IFun:=⟨10,[.slot 2],zzQ,6,1,zbd⟩
theorem zfv:zbi Tryz.prog [] 1 zoG=some zrr:=by kernel_rfl
def zzR:ICode:=oR [oV 4 .nilsl] (.seq (oR [oI 5 0,oO 6 (.eq1 false .ptr) [s_ 5,.val .nilptr]] (oT 6 (oR [oV 4 .nilsl] .ret))) (oR [oI 7 0,oO 8 .nilchk [s_ 7],oF 9 2 8,oL 10 1 9,oI 11 1,oO 12 (.mlook false [.str] .nilsl false) [s_ 10,s_ 11],oO 13 (.call zqX) [s_ 12],oI 4 13] .ret))
def zrs:IFun:=⟨14,[.slot 4],zzR,6,1,zbd⟩
theorem ze5:zbi Tryz.prog [] 1 zuS=some zrs:=by kernel_rfl
def zCo:ICode:=oR [oO 3 .boxL [s_ 1],oV 4 (.bool false)] (oR [oI 5 0,oO 6 (.eq1 true .ptr) [s_ 5,.val .nilptr],oI 7 6,oG 7 (oI 8 0),oG 7 (oO 9 .nilchk [s_ 8]),oG 7 (oF 10 7 9),⟨some 11,(some (7,true)),.load 1 false,[s_ 10],(some (.heap))⟩,oK 3 (oG 7 (oM 12 3 3)),oG 7 (oO 13 (.callP zmg) [s_ 12]),oG 7 (oO 14 (.mlook true [(.int .i64),.str,.str,.str,.str] (.bool false) false) [s_ 11,s_ 13]),oP 15 7 14,oI 4 15] .ret)
def zzS:IFun:=⟨16,[.slot 4],zCo,6,1,zbd⟩
theorem zeN:zbi Tryz.prog [1048579,2097230] 1 zzB=some zzS:=by kernel_rfl
def zi2:ICode:=.seq (oR [oI 4 3,oI 5 0,oO 6 .lenstr [s_ 5],oB 7 .lss 4 6] (oE 7 0)) (.seq (.block 1 (oR [oI 10 0,oI 11 3,oO 12 .ixstr [s_ 10,s_ 11],oO 13 (.bin .lss) [s_ 12,.val (.int .u8 32)],oI 14 13,oH 14 (oI 15 0),oH 14 (oI 16 3),oH 14 (oO 17 .ixstr [s_ 15,s_ 16]),oH 14 (oO 18 (.bin .gtr) [s_ 17,.val (.int .u8 126)]),oQ 19 14 18] (oT 19 (oR [oV 2 (.bool false)] .ret)))) (.region [oI 8 3,oC 9 .add 8 1,oI 3 9]))
def zzT:ICode:=oR [oV 2 (.bool false)] (.seq (oR [oV 3 (n_ 0)] (.block 0 (.loop zi2))) (oR [oI 20 0,oO 21 .lenstr [s_ 20],oC 22 .leq 21 64,oI 2 22] .ret))
def zrt:IFun:=⟨23,[.slot 2],zzT,6,0,zbd⟩
theorem zd9:zbi Tryz.prog [] 0 zuT=some zrt:=by kernel_rfl
def zi3:ICode:=.seq (oR [oI 7 3,oI 8 0,oO 9 .lenstr [s_ 8],oB 10 .lss 7 9] (oE 10 0)) (.seq (.block 1 (oR [oI 13 0,oI 14 3,oO 15 .ixstr [s_ 13,s_ 14],oI 4 15] (oR [oI 16 4,oO 17 (.bin .geq) [s_ 16,.val (.int .u8 97)],oI 18 17,oG 18 (oI 19 4),oG 18 (oO 20 (.bin .leq) [s_ 19,.val (.int .u8 122)]),oP 21 18 20,oI 22 21,oH 22 (oI 23 4),oH 22 (oO 24 (.bin .geq) [s_ 23,.val (.int .u8 65)]),oH 22 (oI 25 24),oG 25 (oI 26 4),oG 25 (oO 27 (.bin .leq) [s_ 26,.val (.int .u8 90)]),oH 22 (oP 28 25 27),oQ 29 22 28,oI 5 29] (oR [oI 30 4,oO 31 (.bin .geq) [s_ 30,.val (.int .u8 48)],oI 32 31,oG 32 (oI 33 4),oG 32 (oO 34 (.bin .leq) [s_ 33,.val (.int .u8 57)]),oP 35 32 34,oI 36 35,oH 36 (oI 37 4),oH 36 (oO 38 (.bin .eql) [s_ 37,.val (.int .u8 95)]),oQ 39 36 38,oI 6 39] (oR [oI 40 5,oO 41 (.un .not) [s_ 40],oI 42 41,oG 42 (oI 43 6),oG 42 (oO 44 (.un .not) [s_ 43]),oG 42 (oI 45 44),oH 45 (oI 46 3),oH 45 (oC 47 .eql 46 0),oG 42 (oQ 48 45 47),oP 49 42 48] (oT 49 (oR [oV 2 (.bool false)] .ret))))))) (.region [oI 11 3,oC 12 .add 11 1,oI 3 12]))
def zxz:ICode:=oR [oV 2 (.bool false)] (.seq (oR [oV 3 (n_ 0)] (.block 0 (.loop zi3))) (oR [oI 50 0,oO 51 .lenstr [s_ 50],oC 52 .geq 51 1,oI 53 52,oG 53 (oI 54 0),oG 53 (oO 55 .lenstr [s_ 54]),oG 53 (oC 56 .leq 55 16),oP 57 53 56,oI 2 57] .ret))
def zoM:IFun:=⟨58,[.slot 2],zxz,6,0,zbd⟩
theorem zeO:zbi Tryz.prog [] 0 zgY=some zoM:=by kernel_rfl
def zmj:ICode:=oR [oO 2 (.allocL [.str ⟨#[]⟩,.str ⟨#[]⟩,.str ⟨#[]⟩]) [],oV 3 (.bool false)] (.seq (oR [oI 5 0,oO 6 .lenstr [s_ 5],oC 7 .gtr 6 60] (oT 7 (oR [oO 8 (.build [.str ⟨#[]⟩,.str ⟨#[]⟩,.str ⟨#[]⟩] []) [],oS 3 2 8,oV 3 (.bool false)] .ret))) (oR [oI 9 0,oO 10 (.call zqY) [s_ 9,.val (.int .u8 62)],oI 4 10] (.seq (oR [oI 11 4,oO 12 .lensl [s_ 11],oC 13 .neq 12 3,oI 14 13,oH 14 (oI 15 4),oH 14 (oO 16 (.ixaddr 1) [s_ 15,.val (n_ 0)]),oH 14 (oL 17 1 16),oH 14 (oO 18 (.call zgY) [s_ 17]),oH 14 (oO 19 (.un .not) [s_ 18]),oQ 20 14 19,oI 21 20,oH 21 (oI 22 4),oH 21 (oO 23 (.ixaddr 1) [s_ 22,.val (n_ 1)]),oH 21 (oL 24 1 23),oH 21 (oO 25 (.call zgY) [s_ 24]),oH 21 (oO 26 (.un .not) [s_ 25]),oQ 27 21 26,oI 28 27,oH 28 (oI 29 4),oH 28 (oO 30 (.ixaddr 1) [s_ 29,.val (n_ 2)]),oH 28 (oL 31 1 30),oH 28 (oO 32 (.call zgY) [s_ 31]),oH 28 (oO 33 (.un .not) [s_ 32]),oQ 34 28 33] (oT 34 (oR [oO 35 (.build [.str ⟨#[]⟩,.str ⟨#[]⟩,.str ⟨#[]⟩] []) [],oS 3 2 35,oV 3 (.bool false)] .ret))) (oR [oI 36 4,oO 37 (.ixaddr 1) [s_ 36,.val (n_ 0)],⟨some 38,none,.load 1 false,[s_ 37],(some (.heap))⟩,oI 39 4,oO 40 (.ixaddr 1) [s_ 39,.val (n_ 1)],⟨some 41,none,.load 1 false,[s_ 40],(some (.heap))⟩,oI 42 4,oO 43 (.ixaddr 1) [s_ 42,.val (n_ 2)],⟨some 44,none,.load 1 false,[s_ 43],(some (.heap))⟩,oO 45 (.build [.str ⟨#[]⟩,.str ⟨#[]⟩,.str ⟨#[]⟩] [(0,1),(2,1),(1,1)]) [s_ 38,s_ 41,s_ 44],oK 2 (oS 3 2 45),oV 3 (.bool true)] .ret))))
def ziE:IFun:=⟨46,[.cell 2 3 true,.slot 3],zmj,6,1,zbd⟩
theorem zeP:zbi Tryz.prog [1048578,3145765,3145768,3145771] 1 zqT=some ziE:=by kernel_rfl
def zzU:ICode:=oR [oC 29 .lss 28 16] (.seq (oE 29 0) (.seq (.block 1 (oR [oO 30 (.ixarr 16 1 false) [s_ 27,s_ 28],oI 5 30] (oR [oI 31 5,oC 32 .lss 31 0,oI 33 32,oH 33 (oI 34 5),oH 33 (oC 35 .gtr 34 1048576),oQ 36 33 35] (oT 36 (oR [oV 2 (.bool false)] .ret))))) (.region [oC 37 .add 28 1,oI 28 37])))
def zoN:ICode:=oR [oO 1 .boxL [s_ 0],oV 2 (.bool false)] (oR [oF 6 0 1,oM 7 2 6,oO 3 (.allocL [n_ 0,n_ 0]) [],oS 2 3 7] (.seq (oR [oF 8 0 3,oL 9 1 8,oC 10 .lss 9 0,oI 11 10,oH 11 (oF 12 0 3),oH 11 (oL 13 1 12),oH 11 (oC 14 .gtr 13 15),oQ 15 11 14,oI 16 15,oH 16 (oF 17 1 3),oH 16 (oL 18 1 17),oH 16 (oC 19 .lss 18 1),oQ 20 16 19,oI 21 20,oH 21 (oF 22 1 3),oH 21 (oL 23 1 22),oH 21 (oC 24 .gtr 23 1048576),oQ 25 21 24] (oT 25 (oR [oV 2 (.bool false)] .ret))) (.seq (oR [oF 26 2 1,oM 27 16 26,oV 28 (n_ 0)] (.block 0 (.loop zzU))) (oR [oF 38 0 3,oK 3 (oL 39 1 38),oF 40 2 1,oO 41 (.ixaddrA 16 1) [s_ 40,s_ 39],oK 1 (oL 42 1 41),oF 43 1 3,oK 3 (oL 44 1 43),oC 45 .sub 44 1,oB 46 .eql 42 45,oI 47 46,oG 47 (oF 48 18 1),oK 1 (oG 47 (oL 49 1 48)),oG 47 (oF 50 19 1),oK 1 (oG 47 (oM 51 5 50)),oG 47 (oF 52 24 1),oK 1 (oG 47 (oM 53 3 52)),oG 47 (oO 54 (.build [n_ 0,n_ 0,.str ⟨#[]⟩,.str ⟨#[]⟩,.str ⟨#[]⟩,.str ⟨#[]⟩,n_ 0,n_ 0,.str ⟨#[]⟩] [(0,1),(1,5),(6,3)]) [s_ 49,s_ 51,s_ 53]),oG 47 (oO 55 (.call zu0) [s_ 54]),oP 56 47 55,oI 2 56] .ret))))
def zjL:IFun:=⟨57,[.slot 2],zoN,6,0,zbd⟩
theorem zea:zbi Tryz.prog [1048577,1048579] 0 zuU=some zjL:=by kernel_rfl
def zBR:ICode:=oR [oO 1 .boxL [s_ 0],oV 2 (n_ 0)] (.seq (oR [oF 3 2 1,oM 4 16 3,oF 5 0 1,oM 6 2 5,oO 7 (.call zu1) [s_ 4,s_ 6],oO 8 (.un .not) [s_ 7],oI 9 8,oH 9 (oF 10 2 1),oH 9 (oM 11 16 10),oH 9 (oO 12 (.call zu2) [s_ 11]),oH 9 (oO 13 (.un .not) [s_ 12]),oQ 14 9 13] (oT 14 (oR [oV 2 (n_ 1)] .ret))) (oR [oM 15 27 1,oO 16 (.call zBP) [s_ 15],oO 17 (.call zBO) [s_ 16],oI 2 17] .ret))
def zxA:IFun:=⟨18,[.slot 2],zBR,6,0,zbd⟩
theorem zjM:zbi Tryz.prog [1048577] 0 zBN=some zxA:=by kernel_rfl
def zgL:ICode:=.seq (oR [oI 16 6,oI 17 0,oO 18 .lensl [s_ 17],oB 19 .lss 16 18] (oE 19 0)) (.seq (.block 1 (oR [oI 22 0,oI 23 6,oX 24 5 22 23,oM 25 5 24,oO 7 (.allocL [n_ 0,n_ 0,n_ 0,n_ 0,.str ⟨#[]⟩]) [],oS 5 7 25] (oR [oI 26 1,oM 27 5 7,oO 28 .callv [s_ 26,s_ 27],oO 29 (.un .not) [s_ 28]] (oT 29 (oR [oI 30 0,oI 31 5,oM 32 5 7,oX 33 5 30 31,oS 5 33 32] (.region [oI 34 5,oC 35 .add 34 1,oI 5 35])))))) (.region [oI 20 6,oC 21 .add 20 1,oI 6 21]))
def zxB:ICode:=oR [oV 4 .nilsl] (oR [oI 8 0,oI 9 1,oO 10 (.call zoH) [s_ 8,s_ 9],oI 5 10] (.seq (oR [oI 11 5,oC 12 .eql 11 (-1)] (oT 12 (oR [oI 13 0,oI 4 13] .ret))) (.seq (oR [oI 14 5,oC 15 .add 14 1,oI 6 15] (.block 0 (.loop zgL))) (oR [oI 36 0,oI 37 5,oO 38 (.slsl 5 true false false) [s_ 36,s_ 37],⟨none,none,.clearR 5 ((.agg [n_ 0,n_ 0,n_ 0,n_ 0,.str ⟨#[]⟩])),[s_ 38],none⟩] (oR [oI 39 0,oI 40 5,oO 41 (.slsl 5 false true false) [s_ 39,s_ 40],oI 4 41] .ret)))))
def zmk:IFun:=⟨42,[.slot 4],zxB,6,0,zbd⟩
theorem zbz:zbi Tryz.prog [1048583] 0 zme=some zmk:=by kernel_rfl
def zve:ICode:=oR [oV 2 .nilsl] (.seq (oR [oI 3 0,oO 4 (.eq1 false .slice) [s_ 3,.val .nilsl]] (oT 4 (oR [oV 2 .nilsl] .ret))) (oR [oO 5 (.buildSl 5 0 (.agg [n_ 0,n_ 0,n_ 0,n_ 0,.str ⟨#[]⟩]) []) [],oI 6 0,oO 7 (.appendN 96 5 48) [s_ 5,s_ 6],oI 2 7] .ret))
def zml:IFun:=⟨8,[.slot 2],zve,6,0,zbd⟩
theorem zbU:zbi Tryz.prog [16777223] 0 ziB=some zml:=by kernel_rfl
def zzV:ICode:=oR [oO 2 .boxL [s_ 0],oV 3 (.bool false)] (oR [oF 4 2 1,oM 5 16 4,oF 6 0 2,oM 7 2 6,oO 8 (.call zuW) [s_ 5,s_ 7],oI 3 8] .ret)
def zru:IFun:=⟨9,[.slot 3],zzV,6,0,zbd⟩
theorem zfw:zbi Tryz.prog [1048578] 0 zuV=some zru:=by kernel_rfl
def zxC:ICode:=oR [oO 2 .boxL [s_ 0],oO 3 .boxL [s_ 1],oV 4 (.bool false)] (oR [oK 3 (oM 5 2 3),oO 6 (.call zqZ) [s_ 5],oI 7 6,oG 7 (oF 8 0 3),oK 3 (oG 7 (oL 9 1 8)),oG 7 (oO 10 (.ixaddrA 16 1) [s_ 2,s_ 9]),oK 2 (oG 7 (oL 11 1 10)),oG 7 (oF 12 1 3),oK 3 (oG 7 (oL 13 1 12)),oG 7 (oB 14 .geq 11 13),oP 15 7 14,oI 4 15] .ret)
def zoO:IFun:=⟨16,[.slot 4],zxC,6,0,zbd⟩
theorem ziF:zbi Tryz.prog [1048578,1048579] 0 zuW=some zoO:=by kernel_rfl
def zi4:ICode:=.seq (oR [oI 15 9,oI 16 10,oB 17 .lss 15 16] (oE 17 0)) (.block 1 (oR [oI 18 9,oI 19 10,oB 20 .add 18 19,oO 21 (.conv .u64) [s_ 20],oO 22 (.bin .shr) [s_ 21,.val (.int .u64 1)],oO 23 (.conv .i64) [s_ 22],oI 11 23] (oR [oI 24 2,oI 25 0,oI 26 11,oX 27 5 25 26,⟨some 28,none,.load 5 true,[s_ 27],(some (.el))⟩,oK 4 (oM 29 5 4),oO 30 .callv [s_ 24,s_ 28,s_ 29],oC 31 .lss 30 0] (.cond (s_ 31) (.region [oI 32 11,oC 33 .add 32 1,oI 9 33]) (.region [oI 34 11,oI 10 34])))))
def zzW:ICode:=oR [oO 4 .boxL [s_ 1],oV 6 (n_ 0),oV 7 (.bool false)] (oR [oI 12 0,oO 13 .lensl [s_ 12],oI 8 13] (oR [oI 14 8,oV 9 (n_ 0),oI 10 14] (.seq (.block 0 (.loop zi4)) (oR [oI 35 9,oI 36 9,oI 37 8,oB 38 .lss 36 37,oI 39 38,oG 39 (oI 40 2),oG 39 (oI 41 0),oG 39 (oI 42 9),oG 39 (oX 43 5 41 42),⟨some 44,(some (39,true)),.load 5 true,[s_ 43],(some (.el))⟩,oK 4 (oG 39 (oM 45 5 4)),oG 39 (oO 46 .callv [s_ 40,s_ 44,s_ 45]),oG 39 (oC 47 .eql 46 0),oP 48 39 47,oI 6 35,oI 7 48] .ret))))
def zrv:IFun:=⟨49,[.slot 6,.slot 7],zzW,6,0,zbd⟩
theorem za0:zbi Tryz.prog [1048580] 0 zmf=some zrv:=by kernel_rfl
def zzX:ICode:=oR [oO 2 .boxL [s_ 0],oO 3 .boxL [s_ 1],oV 4 (n_ 0)] (oR [oF 5 0 2,oF 6 0 5,oK 2 (oL 7 1 6),oF 8 0 3,oF 9 0 8,oK 3 (oL 10 1 9),oO 11 (.call f_x0) [s_ 7,s_ 10],oF 12 0 2,oF 13 1 12,oK 2 (oL 14 1 13),oF 15 0 3,oF 16 1 15,oK 3 (oL 17 1 16),oO 18 (.call f_x0) [s_ 14,s_ 17],oO 19 (.buildSl 1 2 (n_ 0) [0,1]) [s_ 11,s_ 18],oO 20 (.call f_x2) [s_ 19],oI 4 20] .ret)
def zrw:IFun:=⟨21,[.slot 4],zzX,6,0,zbd⟩
theorem zjN:zbi Tryz.prog [1048578,1048579] 0 zxu=some zrw:=by kernel_rfl
def zzY:IFun:=⟨8,[],.trap,0,30,zr9⟩
def zxD:ICode:=oR [oO 4 .boxL [s_ 1]] (.seq (oR [oI 6 2,oO 7 .lensl [s_ 6],oC 8 .eql 7 0] (oT 8 (oR [oI 9 0,oO 10 .nilchk [s_ 9],oF 11 0 10,⟨some 12,none,.load 1 false,[s_ 11],(some (.heap))⟩,oK 4 (oM 13 5 4),⟨none,none,.mdel true [(.int .i64),.str,.str,.str,.str],[s_ 12,s_ 13],none⟩] .ret))) (.region [oI 14 0,oO 15 .nilchk [s_ 14],oF 16 0 15,⟨some 17,none,.load 1 false,[s_ 16],(some (.heap))⟩,oK 4 (oM 18 5 4),oI 19 2,⟨none,none,.mset true [(.int .i64),.str,.str,.str,.str],[s_ 17,s_ 18,s_ 19],none⟩]))
def zoP:IFun:=⟨20,[],zxD,6,0,zbd⟩
theorem zgg:zbi Tryz.prog [1048580] 0 zqU=some zoP:=by kernel_rfl
def zjO:ICode:=oR [oO 5 .boxL [s_ 2]] (oR [oF 7 0 5,oL 8 1 7] (.block 0 (oR [oC 10 .eql 8 1,oI 9 10] (.cond (s_ 9) (oR [oI 11 0,oO 12 .nilchk [s_ 11],oF 13 7 12,⟨some 14,none,.load 1 false,[s_ 13],(some (.heap))⟩,oK 5 (oM 15 5 5),⟨none,none,.mset true [(.int .i64),.str,.str,.str,.str],[s_ 14,s_ 15,.val (.bool true)],none⟩] (.region [oI 16 0,oI 17 0,oO 18 .nilchk [s_ 17],oF 19 0 18,⟨some 20,none,.load 1 false,[s_ 19],(some (.heap))⟩,oF 21 1 5,oK 5 (oL 22 1 21),oO 23 (.buildSl 1 1 (.str ⟨#[]⟩) [0]) [s_ 22],oO 24 (.appendT 9 1 16) [s_ 20,s_ 23],oO 25 .nilchk [s_ 16],oF 26 0 25,⟨none,none,.store 1,[s_ 26,s_ 24],(some (.heap))⟩])) (oR [oC 28 .eql 8 2,oI 27 28] (.cond (s_ 27) (oR [oI 29 0,oO 30 .nilchk [s_ 29],oF 31 7 30,⟨some 32,none,.load 1 false,[s_ 31],(some (.heap))⟩,oF 33 1 5,oK 5 (oL 34 1 33),oO 35 (.callP ziC) [s_ 34],oO 36 (.mlook true [(.int .i64),.str,.str,.str,.str] (.bool false) false) [s_ 32,s_ 35]] (oT 36 (.region [oI 37 0,oO 38 .nilchk [s_ 37],oF 39 2 38,⟨some 40,none,.load 1 false,[s_ 39],(some (.heap))⟩,oF 41 1 5,oK 5 (oL 42 1 41),oI 43 0,oO 44 .nilchk [s_ 43],oF 45 2 44,⟨some 46,none,.load 1 false,[s_ 45],(some (.heap))⟩,oF 47 1 5,oK 5 (oL 48 1 47),oO 49 (.mlook false [.str] .nilsl false) [s_ 46,s_ 48],oF 50 4 5,oK 5 (oL 51 1 50),oO 52 (.buildSl 1 1 (.str ⟨#[]⟩) [0]) [s_ 51],oO 53 (.appendT 9 1 16) [s_ 49,s_ 52],⟨none,none,.mset false [.str],[s_ 40,s_ 42,s_ 53],none⟩]))) (oR [oC 55 .eql 8 3,oI 54 55] (.cond (s_ 54) (oR [oI 56 0,oO 57 .nilchk [s_ 56],oF 58 7 57,⟨some 59,none,.load 1 false,[s_ 58],(some (.heap))⟩,oF 60 1 5,oK 5 (oL 61 1 60),oO 62 (.callP ziC) [s_ 61],oO 63 (.mlook true [(.int .i64),.str,.str,.str,.str] (.bool false) false) [s_ 59,s_ 62],oI 64 63,oG 64 (oI 65 0),oG 64 (oO 66 .nilchk [s_ 65]),oG 64 (oF 67 7 66),⟨some 68,(some (64,true)),.load 1 false,[s_ 67],(some (.heap))⟩,oG 64 (oF 69 2 5),oK 5 (oG 64 (oL 70 1 69)),oG 64 (oO 71 (.callP ziC) [s_ 70]),oG 64 (oO 72 (.mlook true [(.int .i64),.str,.str,.str,.str] (.bool false) false) [s_ 68,s_ 71]),oP 73 64 72] (oT 73 (oR [oI 74 0,oO 75 .nilchk [s_ 74],oF 76 7 75,⟨some 77,none,.load 1 false,[s_ 76],(some (.heap))⟩,oK 5 (oM 78 5 5),⟨none,none,.mset true [(.int .i64),.str,.str,.str,.str],[s_ 77,s_ 78,.val (.bool true)],none⟩] (.region [oI 79 0,oI 80 0,oO 81 .nilchk [s_ 80],oF 82 1 81,⟨some 83,none,.load 1 false,[s_ 82],(some (.heap))⟩,oK 5 (oM 84 5 5),oO 85 (.callP zq0) [s_ 84],oO 86 (.buildSl 3 1 (.agg [.str ⟨#[]⟩,.str ⟨#[]⟩,.str ⟨#[]⟩]) [0]) [s_ 85],oO 87 (.appendN 73 3 48) [s_ 83,s_ 86],oO 88 .nilchk [s_ 79],oF 89 1 88,⟨none,none,.store 1,[s_ 89,s_ 87],(some (.heap))⟩])))) (.seq (oR [oC 91 .eql 8 4,oI 90 91] (.cond (s_ 90) .skip (.region [oC 92 .eql 8 5,oI 90 92]))) (oT 90 (oR [oM 93 5 5,oO 94 (.call zu4) [s_ 93],oO 6 (.allocL [n_ 0,.str ⟨#[]⟩,.str ⟨#[]⟩,.str ⟨#[]⟩,.str ⟨#[]⟩]) [],oS 5 6 94] (oR [oI 95 0,oO 96 .nilchk [s_ 95],oF 97 7 96,⟨some 98,none,.load 1 false,[s_ 97],(some (.heap))⟩,oK 6 (oM 99 5 6),oO 100 (.mlook true [(.int .i64),.str,.str,.str,.str] (.bool false) false) [s_ 98,s_ 99]] (oT 100 (oR [oI 101 0,oO 102 .nilchk [s_ 101],oF 103 5 102,⟨some 104,none,.load 1 false,[s_ 103],(some (.heap))⟩,oK 5 (oM 105 5 5),oI 106 1,oK 5 (oM 107 5 5),oO 108 (.callP zq1) [s_ 106,s_ 107],⟨none,none,.mset true [(.int .i64),.str,.str,.str,.str],[s_ 104,s_ 105,s_ 108],none⟩] (.region [oI 109 0,oO 110 .nilchk [s_ 109],oF 111 6 110,⟨some 112,none,.load 1 false,[s_ 111],(some (.heap))⟩,oK 6 (oM 113 5 6),oF 115 4 5,oK 5 (oL 116 1 115),oO 117 (.buildSl 1 1 (.str ⟨#[]⟩) [0]) [s_ 116],oO 114 (.mlook true [(.int .i64),.str,.str,.str,.str] .nilsl false) [s_ 112,s_ 113],⟨none,none,.mset true [(.int .i64),.str,.str,.str,.str],[s_ 112,s_ 113,s_ 114],none⟩,oO 119 (.appendT 9 1 16) [s_ 114,s_ 117],⟨none,none,.mset true [(.int .i64),.str,.str,.str,.str],[s_ 112,s_ 113,s_ 119],none⟩,oV 118 .junk,oV 120 .junk])))))))))))))))
def zdx:IFun:=⟨121,[],zjO,6,0,zbd⟩
theorem zg1:zbi Tryz.prog [1048581,1048582,2097229,2097262,2097263,2097264,33554432,16777303] 0 zeK=some zdx:=by kernel_rfl
def zzZ:IFun:=⟨8,[],.trap,0,30,zj5⟩
def b_x23:ICode:=oR [oO 2 .boxL [s_ 0],oO 3 .boxL [s_ 1],oV 4 (n_ 0)] (oR [oF 5 0 2,oK 2 (oL 6 1 5),oF 7 0 3,oK 3 (oL 8 1 7),oO 9 (.call f_x1) [s_ 6,s_ 8],oF 10 2 2,oK 2 (oL 11 1 10),oF 12 2 3,oK 3 (oL 13 1 12),oO 14 (.call f_x1) [s_ 11,s_ 13],oF 15 1 2,oK 2 (oL 16 1 15),oF 17 1 3,oK 3 (oL 18 1 17),oO 19 (.call f_x1) [s_ 16,s_ 18],oO 20 (.buildSl 1 3 (n_ 0) [0,1,2]) [s_ 9,s_ 14,s_ 19],oO 21 (.call f_x2) [s_ 20],oI 4 21] .ret)
def F_x23:IFun:=⟨22,[.slot 4],b_x23,6,0,zbd⟩
theorem c_graph_order:zbi Tryz.prog [1048578,1048579] 0 f_x23=some F_x23:=by kernel_rfl
def ziG:ICode:=oR [oO 1 .boxL [s_ 0],oV 2 (.bool false)] (.seq (oR [oF 5 0 1,oL 6 1 5] (.block 0 (oR [oC 8 .eql 6 0,oI 7 8] (.cond (s_ 7) (oR [oF 9 1 1,oL 10 1 9,oC 11 .eql 10 0,oI 12 11,oG 12 (oF 13 2 1),oG 12 (oL 14 1 13),oG 12 (oO 15 (.bin .eql) [s_ 14,.val (.str ⟨#[]⟩)]),oP 16 12 15,oI 2 16] .ret) (oR [oC 18 .eql 6 1,oI 17 18] (.cond (s_ 17) (oR [oF 19 1 1,oL 20 1 19,oC 21 .andNot 20 1,oC 22 .eql 21 0,oI 23 22,oG 23 (oF 24 2 1),oG 23 (oL 25 1 24),oG 23 (oO 26 (.bin .eql) [s_ 25,.val (.str ⟨#[]⟩)]),oP 27 23 26,oI 2 27] .ret) (oR [oC 29 .eql 6 2,oI 28 29] (.cond (s_ 28) (oR [oF 30 1 1,oL 31 1 30,oC 32 .geq 31 (-1099511627776),oI 33 32,oG 33 (oF 34 1 1),oG 33 (oL 35 1 34),oG 33 (oC 36 .leq 35 1099511627776),oP 37 33 36,oI 38 37,oG 38 (oF 39 2 1),oG 38 (oL 40 1 39),oG 38 (oO 41 (.bin .eql) [s_ 40,.val (.str ⟨#[]⟩)]),oP 42 38 41,oI 2 42] .ret) (oR [oC 44 .eql 6 3,oI 43 44] (.cond (s_ 43) (oR [oF 45 1 1,oL 46 1 45,oC 47 .eql 46 0,oI 48 47,oG 48 (oF 49 2 1),oG 48 (oL 50 1 49),oG 48 (oO 51 (.call zu5) [s_ 50]),oP 52 48 51,oI 2 52] .ret) (oR [oC 54 .eql 6 4,oI 53 54] (oT 53 (oR [oF 55 1 1,oL 56 1 55,oC 57 .eql 56 0,oI 58 57,oG 58 (oF 59 2 1),oG 58 (oL 60 1 59),oG 58 (oO 61 (.call zoJ) [s_ 60]),oP 62 58 61,oI 2 62] .ret))))))))))))) (oR [oM 64 3 1,oO 65 (.call zq2) [s_ 64],oI 63 65,oO 66 (.extract 0) [s_ 63],oO 67 (.extract 1) [s_ 63],oO 3 (.allocL [.str ⟨#[]⟩,.str ⟨#[]⟩,.str ⟨#[]⟩]) [],oS 3 3 66,oI 4 67] (oR [oI 68 4,oI 2 68] .ret)))
def zgh:IFun:=⟨69,[.slot 2],ziG,6,0,zbd⟩
theorem zjP:zbi Tryz.prog [1048577,1048579] 0 zqV=some zgh:=by kernel_rfl
def zz0:ICode:=oR [oO 2 (.allocL [n_ 0,.str ⟨#[]⟩,.str ⟨#[]⟩,.str ⟨#[]⟩,.str ⟨#[]⟩]) []] (oR [oI 3 0,oO 4 (.build [n_ 0,.str ⟨#[]⟩,.str ⟨#[]⟩,.str ⟨#[]⟩,.str ⟨#[]⟩] [(0,1),(1,1)]) [.val (n_ 1),s_ 3],oS 5 2 4] .ret)
def zrx:IFun:=⟨5,[.cell 2 5 true],zz0,6,1,zbd⟩
theorem zkK:zbi Tryz.prog [1048578] 1 ziC=some zrx:=by kernel_rfl
def zz1:ICode:=oR [oO 1 .boxL [s_ 0],oO 2 (.allocL [n_ 0,.str ⟨#[]⟩,.str ⟨#[]⟩,.str ⟨#[]⟩,.str ⟨#[]⟩]) []] (oR [oF 3 0 1,oL 4 1 3,oF 5 1 1,oL 6 1 5,oF 7 2 1,oL 8 1 7,oO 9 (.build [n_ 0,.str ⟨#[]⟩,.str ⟨#[]⟩,.str ⟨#[]⟩,.str ⟨#[]⟩] [(0,1),(1,1),(2,1),(3,1)]) [.val (n_ 3),s_ 4,s_ 6,s_ 8],oS 5 2 9] .ret)
def zry:IFun:=⟨10,[.cell 2 5 true],zz1,6,1,zbd⟩
theorem zkL:zbi Tryz.prog [1048577,1048578] 1 zmg=some zry:=by kernel_rfl
def zvf:IFun:=⟨8,[],.trap,0,10,zbd⟩
def zw4:ICode:=oR [oB 17 .lss 16 15] (.seq (oE 17 0) (.seq (.block 1 (oR [oX 18 3 14 16,oM 19 3 18,oO 8 (.allocL [n_ 0,n_ 0,.str ⟨#[]⟩]) [],oS 3 8 19] (.region [oI 20 1,oM 21 3 8,oO 22 (.call zq3) [s_ 21],oO 23 (.buildSl 1 1 (.str ⟨#[]⟩) [0]) [s_ 22],oO 24 (.append 9 1 16) [s_ 20,s_ 23],oI 1 24]))) (.region [oC 25 .add 16 1,oI 16 25])))
def zz2:ICode:=oR [oO 5 .boxL [s_ 2],oV 6 (.str ⟨#[]⟩)] (.seq (oR [oI 9 0,oO 10 .nilchk [s_ 9],oF 11 5 10,⟨some 12,none,.load 1 false,[s_ 11],(some (.heap))⟩,oK 5 (oM 13 5 5),oO 14 (.mlook true [(.int .i64),.str,.str,.str,.str] .nilsl false) [s_ 12,s_ 13],oO 15 .lensl [s_ 14],oV 16 (n_ 0)] (.block 0 (.loop zw4))) (oR [oI 26 1,oO 27 (.call zjJ) [s_ 26,.val (.str ⟨#[32]⟩)],oI 6 27] .ret))
def zrz:IFun:=⟨28,[.slot 6],zz2,6,1,zbd⟩
theorem zgi:zbi Tryz.prog [1048581,1048584,2097231] 1 zqW=some zrz:=by kernel_rfl
def zxE:ICode:=oR [oV 2 .nilsl] (.seq (oR [oI 3 0,oO 4 (.eq1 false .slice) [s_ 3,.val .nilsl]] (oT 4 (oR [oV 2 .nilsl] .ret))) (oR [oO 5 (.buildSl 1 0 (.str ⟨#[]⟩) []) [],oI 6 0,oO 7 (.append 9 1 16) [s_ 5,s_ 6],oI 2 7] .ret))
def zmm:IFun:=⟨8,[.slot 2],zxE,6,0,zbd⟩
theorem zc8:zbi Tryz.prog [] 0 zqX=some zmm:=by kernel_rfl
def zxF:ICode:=oR [oV 2 .nilsl] (.seq (oR [oI 3 0,oO 4 (.eq1 false .slice) [s_ 3,.val .nilsl]] (oT 4 (oR [oV 2 .nilsl] .ret))) (oR [oO 5 (.buildSl 3 0 (.agg [.str ⟨#[]⟩,.str ⟨#[]⟩,.str ⟨#[]⟩]) []) [],oI 6 0,oO 7 (.append 73 3 48) [s_ 5,s_ 6],oI 2 7] .ret))
def zmn:IFun:=⟨8,[.slot 2],zxF,6,0,zbd⟩
theorem zcx:zbi Tryz.prog [] 0 zuZ=some zmn:=by kernel_rfl
def zkM:ICode:=.seq (oR [oI 8 6,oI 9 0,oO 10 .lenstr [s_ 9],oB 11 .lss 8 10] (oE 11 0)) (.seq (.block 1 (oR [oI 14 0,oI 15 6,oO 16 .ixstr [s_ 14,s_ 15],oI 17 1,oB 18 .eql 16 17] (.cond (s_ 18) (.region [oI 19 5,oO 20 (.buildSl 1 1 (.str ⟨#[]⟩) [0]) [.val (.str ⟨#[]⟩)],oO 21 (.append 9 1 16) [s_ 19,s_ 20],oI 5 21]) (.region [oI 22 5,oI 23 5,oO 24 .lensl [s_ 23],oC 25 .sub 24 1,oI 26 5,oI 27 5,oO 28 .lensl [s_ 27],oC 29 .sub 28 1,oX 30 1 26 29,⟨some 31,none,.load 1 false,[s_ 30],(some (.heap))⟩,oI 32 0,oI 33 6,oI 34 6,oC 35 .add 34 1,oO 36 (.slstr true true) [s_ 32,s_ 33,s_ 35],oB 37 .add 31 36,oX 38 1 22 25,⟨none,none,.store 1,[s_ 38,s_ 37],(some (.heap))⟩])))) (.region [oI 12 6,oC 13 .add 12 1,oI 6 13]))
def zz3:ICode:=oR [oV 4 .nilsl] (oR [oO 7 (.buildR 9 1 1 (.str ⟨#[]⟩) [0]) [.val (.str ⟨#[]⟩)],oI 5 7] (.seq (oR [oV 6 (n_ 0)] (.block 0 (.loop zkM))) (oR [oI 39 5,oI 4 39] .ret)))
def zrA:IFun:=⟨40,[.slot 4],zz3,6,0,zbd⟩
theorem zeb:zbi Tryz.prog [7,3145758,3145766] 0 zqY=some zrA:=by kernel_rfl
def zkN:ICode:=oR [oO 1 .boxL [s_ 0],oV 2 (.bool false)] (.seq (oR [oF 5 1 1,oM 6 5 5,oO 7 (.call zu6) [s_ 6],oO 8 (.un .not) [s_ 7]] (oT 8 (oR [oV 2 (.bool false)] .ret))) (oR [oF 9 1 1,oF 10 0 9,oL 11 1 10,oC 12 .geq 11 4,oI 3 12] (oR [oF 13 6 1,oM 14 3 13,oO 15 (.build [n_ 0,n_ 0,.str ⟨#[]⟩] []) [],oO 16 (.eqv false [(.int .i64),(.int .i64),.str]) [s_ 14,s_ 15],oI 4 16] (.seq (oR [oF 17 0 1,oL 18 1 17] (.block 0 (.seq (oR [oC 20 .eql 18 1,oI 19 20] (.cond (s_ 19) .skip (.region [oC 21 .eql 18 2,oI 19 21]))) (.cond (s_ 19) (oR [oI 22 3,oO 23 (.un .not) [s_ 22],oI 24 23,oG 24 (oI 25 4),oP 26 24 25,oI 2 26] .ret) (oR [oC 28 .eql 18 3,oI 27 28] (.cond (s_ 27) (oR [oI 29 3,oI 30 29,oG 30 (oF 31 6 1),oG 30 (oF 32 0 31),oG 30 (oL 33 1 32),oG 30 (oC 34 .geq 33 1),oP 35 30 34,oI 36 35,oG 36 (oF 37 6 1),oG 36 (oF 38 0 37),oG 36 (oL 39 1 38),oG 36 (oC 40 .leq 39 3),oP 41 36 40,oI 42 41,oG 42 (oF 43 6 1),oG 42 (oM 44 3 43),oG 42 (oO 45 (.call zuP) [s_ 44]),oP 46 42 45,oI 2 46] .ret) (oR [oC 48 .eql 18 4,oI 47 48] (oT 47 (oR [oI 49 3,oI 50 49,oG 50 (oI 51 4),oP 52 50 51,oI 2 52] .ret))))))))) (oR [oV 2 (.bool false)] .ret)))))
def zhv:IFun:=⟨53,[.slot 2],zkN,6,0,zbd⟩
theorem zdY:zbi Tryz.prog [1048577] 0 zu0=some zhv:=by kernel_rfl
def zxG:ICode:=oR [oO 2 .boxL [s_ 0],oO 3 .boxL [s_ 1],oV 4 (.bool false)] (oR [oK 3 (oM 5 2 3),oO 6 (.call zqZ) [s_ 5],oI 7 6,oG 7 (oF 8 0 3),oK 3 (oG 7 (oL 9 1 8)),oG 7 (oO 10 (.ixaddrA 16 1) [s_ 2,s_ 9]),oK 2 (oG 7 (oL 11 1 10)),oG 7 (oF 12 1 3),oK 3 (oG 7 (oL 13 1 12)),oG 7 (oC 14 .sub 13 1),oG 7 (oB 15 .eql 11 14),oP 16 7 15,oI 4 16] .ret)
def zoQ:IFun:=⟨17,[.slot 4],zxG,6,0,zbd⟩
theorem zjQ:zbi Tryz.prog [1048578,1048579] 0 zu1=some zoQ:=by kernel_rfl
def zz4:ICode:=oR [oC 7 .lss 6 16] (.seq (oE 7 0) (.seq (.block 1 (oR [oO 8 (.ixarr 16 1 false) [s_ 5,s_ 6],oI 4 8] (oR [oI 9 4,oC 10 .lss 9 0,oI 11 10,oH 11 (oI 12 4),oH 11 (oC 13 .gtr 12 1048576),oQ 14 11 13] (oT 14 (oR [oV 2 (.bool false)] .ret))))) (.region [oC 15 .add 6 1,oI 6 15])))
def zz5:ICode:=oR [oO 1 .boxL [s_ 0],oV 2 (.bool false)] (.seq (oR [oM 5 16 1,oV 6 (n_ 0)] (.block 0 (.loop zz4))) (oR [oV 2 (.bool true)] .ret))
def zrB:IFun:=⟨16,[.slot 2],zz5,6,0,zbd⟩
theorem ziH:zbi Tryz.prog [1048577] 0 zu2=some zrB:=by kernel_rfl
def zDO:ICode:=oR [oO 1 .boxL [s_ 0],oV 2 (n_ 0)] (.seq (oR [oM 3 9 1,oO 4 (.call zBQ) [s_ 3],oO 5 (.un .not) [s_ 4]] (oT 5 (oR [oV 2 (n_ 1)] .ret))) (oR [oV 2 (n_ 0)] .ret))
def zz6:IFun:=⟨6,[.slot 2],zDO,6,0,zbd⟩
theorem ziI:zbi Tryz.prog [1048577] 0 zBO=some zz6:=by kernel_rfl
def zDP:ICode:=oR [oO 1 .boxL [s_ 0],oO 2 (.allocL [n_ 0,n_ 0,.str ⟨#[]⟩,.str ⟨#[]⟩,.str ⟨#[]⟩,.str ⟨#[]⟩,n_ 0,n_ 0,.str ⟨#[]⟩]) []] (oR [oF 3 18 1,oL 4 1 3,oF 5 19 1,oM 6 5 5,oF 7 24 1,oM 8 3 7,oO 9 (.build [n_ 0,n_ 0,.str ⟨#[]⟩,.str ⟨#[]⟩,.str ⟨#[]⟩,.str ⟨#[]⟩,n_ 0,n_ 0,.str ⟨#[]⟩] [(0,1),(1,5),(6,3)]) [s_ 4,s_ 6,s_ 8],oS 9 2 9] .ret)
def zz7:IFun:=⟨10,[.cell 2 9 true],zDP,6,0,zbd⟩
theorem zoR:zbi Tryz.prog [1048577,1048578] 0 zBP=some zz7:=by kernel_rfl
def zrC:ICode:=oR [oB 9 .lss 8 7] (.seq (oE 9 0) (.seq (.block 1 (oR [oI 10 8,oI 5 10] (oR [oI 11 1,oI 12 0,oI 13 5,oX 14 5 12 13,oM 15 5 14,oO 16 .callv [s_ 11,s_ 15]] (oT 16 (oR [oI 17 5,oI 4 17] .ret))))) (.region [oC 18 .add 8 1,oI 8 18])))
def zxH:ICode:=oR [oV 4 (n_ 0)] (.seq (oR [oI 6 0,oO 7 .lensl [s_ 6],oV 8 (n_ 0)] (.block 0 (.loop zrC))) (oR [oV 4 (.int .i64 (-1))] .ret))
def zmo:IFun:=⟨19,[.slot 4],zxH,6,0,zbd⟩
theorem zbG:zbi Tryz.prog [] 0 zoH=some zmo:=by kernel_rfl
def zvg:ICode:=oR [oO 1 .boxL [s_ 0],oV 2 (.bool false)] (oR [oF 3 0 1,oL 4 1 3,oC 5 .geq 4 0,oI 6 5,oG 6 (oF 7 0 1),oG 6 (oL 8 1 7),oG 6 (oC 9 .lss 8 16),oP 10 6 9,oI 11 10,oG 11 (oF 12 1 1),oG 11 (oL 13 1 12),oG 11 (oC 14 .geq 13 1),oP 15 11 14,oI 16 15,oG 16 (oF 17 1 1),oG 16 (oL 18 1 17),oG 16 (oC 19 .leq 18 1048576),oP 20 16 19,oI 2 20] .ret)
def zmp:IFun:=⟨21,[.slot 2],zvg,6,0,zbd⟩
theorem zkO:zbi Tryz.prog [1048577] 0 zqZ=some zmp:=by kernel_rfl
def L0_x2:ICode:=oR [oB 9 .lss 8 7] (.seq (oE 9 0) (.seq (.block 1 (oR [oX 10 1 6 8,oL 11 1 10,oI 5 11] (oR [oI 12 5,oI 13 3,oB 14 .neq 12 13] (oT 14 (oR [oI 15 5,oI 2 15] .ret))))) (.region [oC 16 .add 8 1,oI 8 16])))
def b_x2:ICode:=oR [oV 2 (n_ 0)] (oR [oV 3 (n_ 0)] (.seq (oR [oI 6 0,oO 7 .lensl [s_ 6],oV 8 (n_ 0)] (.block 0 (.loop L0_x2))) (oR [oI 17 3,oI 2 17] .ret)))
def F_x2:IFun:=⟨18,[.slot 2],b_x2,6,0,zbd⟩
theorem c_cmp_Orint:zbi Tryz.prog [] 0 f_x2=some F_x2:=by kernel_rfl
def b_x0:ICode:=oR [oV 4 (n_ 0)] (oR [oI 7 0,oO 8 (.call f_x3) [s_ 7],oI 5 8] (oR [oI 9 1,oO 10 (.call f_x3) [s_ 9],oI 6 10] (.seq (oR [oI 11 5] (oT 11 (.seq (oR [oI 12 6] (oT 12 (oR [oV 4 (n_ 0)] .ret))) (oR [oV 4 (.int .i64 (-1))] .ret)))) (.seq (oR [oI 13 6] (oT 13 (oR [oV 4 (n_ 1)] .ret))) (.seq (oR [oI 14 0,oI 15 1,oB 16 .lss 14 15] (oT 16 (oR [oV 4 (.int .i64 (-1))] .ret))) (.seq (oR [oI 17 0,oI 18 1,oB 19 .gtr 17 18] (oT 19 (oR [oV 4 (n_ 1)] .ret))) (oR [oV 4 (n_ 0)] .ret)))))))
def F_x0:IFun:=⟨20,[.slot 4],b_x0,6,0,zbd⟩
theorem c_cmp_Compareint:zbi Tryz.prog [] 0 f_x0=some F_x0:=by kernel_rfl
def zxI:ICode:=oR [oO 3 .boxL [s_ 1],oO 4 .freeze [.val .nilsl]] (.seq (oR [oI 5 0,oO 6 (.eq1 false .ptr) [s_ 5,.val .nilptr]] (oT 6 (oR [oO 4 .freeze [.val .nilsl]] .ret))) (oR [oI 7 0,oO 8 .nilchk [s_ 7],oF 9 0 8,⟨some 10,none,.load 1 false,[s_ 9],(some (.heap))⟩,oK 3 (oM 11 5 3),oO 12 (.mlook true [(.int .i64),.str,.str,.str,.str] .nilsl false) [s_ 10,s_ 11],oO 13 (.call ziB) [s_ 12],oO 4 .freeze [s_ 13]] .ret))
def zmq:IFun:=⟨14,[.slot 4],zxI,6,0,zbd⟩
theorem zec:zbi Tryz.prog [1048579,8388612] 0 zoI=some zmq:=by kernel_rfl
def zz8:IFun:=⟨8,[],.trap,0,30,zj3⟩
def b_x54:ICode:=oR [oO 2 .boxL [s_ 0],oO 3 .boxL [s_ 1],oV 4 (n_ 0)] (oR [oF 5 0 2,oM 6 5 5,oF 7 0 3,oM 8 5 7,oO 9 (.call f_x52) [s_ 6,s_ 8],oI 4 9] .ret)
def F_x54:IFun:=⟨10,[.slot 4],b_x54,6,0,zbd⟩
theorem c_store_Store_All_1:zbi Tryz.prog [1048578,1048579] 0 f_x54=some F_x54:=by kernel_rfl
def b_x52:ICode:=oR [oO 2 .boxL [s_ 0],oO 3 .boxL [s_ 1],oV 4 (n_ 0)] (oR [oF 5 0 2,oK 2 (oL 6 1 5),oF 7 0 3,oK 3 (oL 8 1 7),oO 9 (.call f_x0) [s_ 6,s_ 8],oF 10 1 2,oK 2 (oL 11 1 10),oF 12 1 3,oK 3 (oL 13 1 12),oO 14 (.call f_x1) [s_ 11,s_ 13],oF 15 2 2,oK 2 (oL 16 1 15),oF 17 2 3,oK 3 (oL 18 1 17),oO 19 (.call f_x1) [s_ 16,s_ 18],oF 20 3 2,oK 2 (oL 21 1 20),oF 22 3 3,oK 3 (oL 23 1 22),oO 24 (.call f_x1) [s_ 21,s_ 23],oF 25 4 2,oK 2 (oL 26 1 25),oF 27 4 3,oK 3 (oL 28 1 27),oO 29 (.call f_x1) [s_ 26,s_ 28],oO 30 (.buildSl 1 5 (n_ 0) [0,1,2,3,4]) [s_ 9,s_ 14,s_ 19,s_ 24,s_ 29],oO 31 (.call f_x2) [s_ 30],oI 4 31] .ret)
def F_x52:IFun:=⟨32,[.slot 4],b_x52,6,0,zbd⟩
theorem c_store_Order:zbi Tryz.prog [1048578,1048579] 0 f_x52=some F_x52:=by kernel_rfl
def zz9:ICode:=oR [oO 1 .boxL [s_ 0],oO 2 (.allocL [.str ⟨#[]⟩,.str ⟨#[]⟩,.str ⟨#[]⟩]) []] (oR [oF 3 1 1,oL 4 1 3,oF 5 2 1,oL 6 1 5,oF 7 3 1,oL 8 1 7,oO 9 (.build [.str ⟨#[]⟩,.str ⟨#[]⟩,.str ⟨#[]⟩] [(0,1),(1,1),(2,1)]) [s_ 4,s_ 6,s_ 8],oS 3 2 9] .ret)
def zrD:IFun:=⟨10,[.cell 2 3 true],zz9,6,1,zbd⟩
theorem zkP:zbi Tryz.prog [1048577,1048578] 1 zq0=some zrD:=by kernel_rfl
def zxJ:ICode:=oR [oO 1 .boxL [s_ 0],oO 2 (.allocL [n_ 0,.str ⟨#[]⟩,.str ⟨#[]⟩,.str ⟨#[]⟩,.str ⟨#[]⟩]) []] (.seq (oR [oF 3 0 1,oL 4 1 3,oC 5 .eql 4 5] (oT 5 (oR [oM 6 5 1,oO 7 (.call zq0) [s_ 6],oO 8 (.call zmg) [s_ 7],oS 5 2 8] .ret))) (oR [oF 9 1 1,oL 10 1 9,oO 11 (.call ziC) [s_ 10],oS 5 2 11] .ret))
def zoS:IFun:=⟨12,[.cell 2 5 true],zxJ,6,1,zbd⟩
theorem zjR:zbi Tryz.prog [1048577,1048578,2097262,2097230,2097229] 1 zu4=some zoS:=by kernel_rfl
def zrE:ICode:=oR [oB 13 .lss 12 11] (.seq (oE 13 0) (.seq (.block 1 (oR [oX 14 5 10 12,oM 15 5 14,oO 7 (.allocL [n_ 0,n_ 0,n_ 0,n_ 0,.str ⟨#[]⟩]) [],oS 5 7 15] (.region [oI 16 5,oF 17 2 7,oM 18 3 17,oO 19 (.buildSl 3 1 (.agg [n_ 0,n_ 0,.str ⟨#[]⟩]) [0]) [s_ 18],oO 20 (.appendN 34 3 32) [s_ 16,s_ 19],oI 5 20]))) (.region [oC 21 .add 12 1,oI 12 21])))
def zAa:ICode:=oR [oO 3 .boxL [s_ 1],oO 4 .freeze [.val .nilsl]] (oR [oV 5 .nilsl] (.seq (oR [oI 8 0,oM 9 5 3,oO 10 (.call zoI) [s_ 8,s_ 9],oO 11 .lensl [s_ 10],oV 12 (n_ 0)] (.block 0 (.loop zrE))) (oR [oI 22 5,oO 23 (.call zu7) [s_ 22,.val (.func 141 [] [])]] (oR [oI 24 5,oO 25 (.call zoK) [s_ 24],oO 4 .freeze [s_ 25]] .ret))))
def zrF:IFun:=⟨26,[.slot 4],zAa,6,1,zbd⟩
theorem zeQ:zbi Tryz.prog [1048579,1048583,16777236,8388612] 1 zq1=some zrF:=by kernel_rfl
def b_x1:ICode:=oR [oV 4 (n_ 0)] (oR [oI 7 0,oO 8 (.call f_x4) [s_ 7],oI 5 8] (oR [oI 9 1,oO 10 (.call f_x4) [s_ 9],oI 6 10] (.seq (oR [oI 11 5] (oT 11 (.seq (oR [oI 12 6] (oT 12 (oR [oV 4 (n_ 0)] .ret))) (oR [oV 4 (.int .i64 (-1))] .ret)))) (.seq (oR [oI 13 6] (oT 13 (oR [oV 4 (n_ 1)] .ret))) (.seq (oR [oI 14 0,oI 15 1,oB 16 .lss 14 15] (oT 16 (oR [oV 4 (.int .i64 (-1))] .ret))) (.seq (oR [oI 17 0,oI 18 1,oB 19 .gtr 17 18] (oT 19 (oR [oV 4 (n_ 1)] .ret))) (oR [oV 4 (n_ 0)] .ret)))))))
def F_x1:IFun:=⟨20,[.slot 4],b_x1,6,0,zbd⟩
theorem c_cmp_Comparestring:zbi Tryz.prog [] 0 f_x1=some F_x1:=by kernel_rfl
def zhw:ICode:=oR [oO 7 .next [s_ 6],oO 8 (.extract 0) [s_ 7]] (.seq (oE 8 0) (.block 1 (oR [oO 9 (.extract 2) [s_ 7],oI 4 9] (oR [oI 10 4,oO 11 (.bin .lss) [s_ 10,.val (.int .i32 32)],oI 12 11,oH 12 (oI 13 4),oH 12 (oO 14 (.bin .gtr) [s_ 13,.val (.int .i32 126)]),oQ 15 12 14] (oT 15 (oR [oV 2 (.bool false)] .ret))))))
def zAb:ICode:=oR [oV 2 (.bool false)] (.seq (oR [oI 5 0,oO 6 .range [s_ 5]] (.block 0 (.loop zhw))) (oR [oI 16 0,oO 17 .lenstr [s_ 16],oC 18 .leq 17 64,oI 2 18] .ret))
def zrG:IFun:=⟨19,[.slot 2],zAb,6,0,zbd⟩
theorem zjS:zbi Tryz.prog [] 0 zu5=some zrG:=by kernel_rfl
def zkQ:ICode:=oR [oB 20 .lss 19 18] (.seq (oE 20 0) (.seq (.block 1 (oR [oI 21 19,oI 3 21] (oR [oI 22 0,oI 23 3,oO 24 .ixstr [s_ 22,s_ 23],oO 25 (.call zu8) [s_ 24],oO 26 (.un .not) [s_ 25]] (oT 26 (oR [oV 2 (.bool false)] .ret))))) (.region [oC 27 .add 19 1,oI 19 27])))
def zrH:ICode:=oR [oV 2 (.bool false)] (.seq (oR [oI 4 0,oO 5 (.bin .eql) [s_ 4,.val (.str ⟨#[]⟩)],oI 6 5,oH 6 (oI 7 0),oH 6 (oO 8 .lenstr [s_ 7]),oH 6 (oC 9 .gtr 8 16),oQ 10 6 9,oI 11 10,oH 11 (oI 12 0),oH 11 (oO 13 .ixstr [s_ 12,.val (n_ 0)]),oH 11 (oO 14 (.call zq4) [s_ 13]),oH 11 (oO 15 (.un .not) [s_ 14]),oQ 16 11 15] (oT 16 (oR [oV 2 (.bool false)] .ret))) (.seq (oR [oI 17 0,oO 18 .lenstr [s_ 17],oV 19 (n_ 0)] (.block 0 (.loop zkQ))) (oR [oV 2 (.bool true)] .ret)))
def zkR:IFun:=⟨28,[.slot 2],zrH,6,0,zbd⟩
theorem zkS:zbi Tryz.prog [] 0 zoJ=some zkR:=by kernel_rfl
def zoT:ICode:=oR [oO 1 .boxL [s_ 0],oO 2 (.allocL [.str ⟨#[]⟩,.str ⟨#[]⟩,.str ⟨#[]⟩]) [],oV 3 (.bool false)] (oR [oF 5 2 1,oL 6 1 5,oO 7 (.call zxw) [s_ 6,.val (.str ⟨#[62]⟩)],oI 4 7] (.seq (oR [oF 8 0 1,oL 9 1 8,oC 10 .neq 9 5,oI 11 10,oH 11 (oF 12 1 1),oH 11 (oL 13 1 12),oH 11 (oC 14 .neq 13 0),oQ 15 11 14,oI 16 15,oH 16 (oI 17 4),oH 16 (oO 18 .lensl [s_ 17]),oH 16 (oC 19 .neq 18 3),oQ 20 16 19,oI 21 20,oH 21 (oI 22 4),oH 21 (oO 23 (.call zge) [s_ 22]),oH 21 (oO 24 (.un .not) [s_ 23]),oQ 25 21 24] (oT 25 (oR [oO 26 (.build [.str ⟨#[]⟩,.str ⟨#[]⟩,.str ⟨#[]⟩] []) [],oS 3 2 26,oV 3 (.bool false)] .ret))) (oR [oI 27 4,oO 28 (.ixaddr 1) [s_ 27,.val (n_ 0)],⟨some 29,none,.load 1 false,[s_ 28],(some (.el))⟩,oI 30 4,oO 31 (.ixaddr 1) [s_ 30,.val (n_ 1)],⟨some 32,none,.load 1 false,[s_ 31],(some (.el))⟩,oI 33 4,oO 34 (.ixaddr 1) [s_ 33,.val (n_ 2)],⟨some 35,none,.load 1 false,[s_ 34],(some (.el))⟩,oO 36 (.build [.str ⟨#[]⟩,.str ⟨#[]⟩,.str ⟨#[]⟩] [(0,1),(2,1),(1,1)]) [s_ 29,s_ 32,s_ 35],oK 2 (oS 3 2 36),oV 3 (.bool true)] .ret)))
def zjT:IFun:=⟨37,[.cell 2 3 true,.slot 3],zoT,6,0,zbd⟩
theorem zkT:zbi Tryz.prog [1048577,1048578,2097308] 0 zq2=some zjT:=by kernel_rfl
def zrI:IFun:=⟨8,[],.trap,5,17,zbd⟩
def zjU:ICode:=oR [oO 1 .boxL [s_ 0],oV 2 (.str ⟨#[]⟩)] (.seq (oR [oM 3 3 1,oO 4 (.call zqV) [s_ 3],oO 5 (.un .not) [s_ 4]] (oT 5 (oR [oV 2 (.str ⟨#[]⟩)] .ret))) (.seq (oR [oF 6 0 1,oL 7 1 6] (.block 0 (oR [oC 9 .eql 7 0,oI 8 9] (.cond (s_ 8) (oR [oV 2 (.str ⟨#[110,117,108,108]⟩)] .ret) (oR [oC 11 .eql 7 1,oI 10 11] (.cond (s_ 10) (oR [oF 12 1 1,oL 13 1 12,oC 14 .eql 13 1,oO 15 (.call zu9) [s_ 14],oI 2 15] .ret) (oR [oC 17 .eql 7 2,oI 16 17] (.cond (s_ 16) (oR [oF 18 1 1,oL 19 1 18,oO 20 (.call zxy) [s_ 19],oI 2 20] .ret) (oR [oC 22 .eql 7 3,oI 21 22] (.cond (s_ 21) (oR [oF 23 2 1,oL 24 1 23,oO 25 (.call zva) [s_ 24],oI 2 25] .ret) (oR [oC 27 .eql 7 4,oI 26 27] (oT 26 (oR [oF 28 2 1,oL 29 1 28,oO 30 (.bin .add) [.val (.str ⟨#[40]⟩),s_ 29],oO 31 (.bin .add) [s_ 30,.val (.str ⟨#[41]⟩)],oI 2 31] .ret))))))))))))) (oR [oF 32 2 1,oL 33 1 32,oO 34 (.bin .add) [.val (.str ⟨#[91]⟩),s_ 33],oO 35 (.bin .add) [s_ 34,.val (.str ⟨#[93]⟩)],oI 2 35] .ret)))
def zg2:IFun:=⟨36,[.slot 2],zjU,6,0,zbd⟩
theorem ziJ:zbi Tryz.prog [1048577,2097317,2097318] 0 zq3=some zg2:=by kernel_rfl
def zfx:ICode:=oR [oO 1 .boxL [s_ 0],oV 2 (.bool false)] (oR [oF 7 1 1,oK 1 (oL 8 1 7),oO 9 (.call zgY) [s_ 8],oF 10 2 1,oK 1 (oL 11 1 10),oO 12 (.call zgY) [s_ 11],oF 13 3 1,oK 1 (oL 14 1 13),oO 15 (.call zgY) [s_ 14],oF 16 4 1,oK 1 (oL 17 1 16),oO 18 (.call zgY) [s_ 17],oI 3 9,oI 4 12,oI 5 15,oI 6 18] (.seq (oR [oF 19 0 1,oL 20 1 19] (.block 0 (oR [oC 22 .eql 20 1,oI 21 22] (.cond (s_ 21) (oR [oI 23 3,oI 24 23,oG 24 (oF 25 2 1),oG 24 (oL 26 1 25),oG 24 (oO 27 (.bin .eql) [s_ 26,.val (.str ⟨#[]⟩)]),oP 28 24 27,oI 29 28,oG 29 (oF 30 3 1),oG 29 (oL 31 1 30),oG 29 (oO 32 (.bin .eql) [s_ 31,.val (.str ⟨#[]⟩)]),oP 33 29 32,oI 34 33,oG 34 (oF 35 4 1),oG 34 (oL 36 1 35),oG 34 (oO 37 (.bin .eql) [s_ 36,.val (.str ⟨#[]⟩)]),oP 38 34 37,oI 2 38] .ret) (.seq (oR [oC 40 .eql 20 2,oI 39 40] (.cond (s_ 39) .skip (.region [oC 41 .eql 20 4,oI 39 41]))) (.cond (s_ 39) (oR [oI 42 3,oI 43 42,oG 43 (oF 44 2 1),oG 43 (oL 45 1 44),oG 43 (oO 46 (.bin .eql) [s_ 45,.val (.str ⟨#[]⟩)]),oP 47 43 46,oI 48 47,oG 48 (oF 49 3 1),oG 48 (oL 50 1 49),oG 48 (oO 51 (.bin .eql) [s_ 50,.val (.str ⟨#[]⟩)]),oP 52 48 51,oI 53 52,oG 53 (oI 54 6),oP 55 53 54,oI 2 55] .ret) (oR [oC 57 .eql 20 3,oI 56 57] (.cond (s_ 56) (oR [oI 58 3,oI 59 58,oG 59 (oI 60 4),oP 61 59 60,oI 62 61,oG 62 (oI 63 5),oP 64 62 63,oI 65 64,oG 65 (oF 66 4 1),oG 65 (oL 67 1 66),oG 65 (oO 68 (.bin .eql) [s_ 67,.val (.str ⟨#[]⟩)]),oP 69 65 68,oI 2 69] .ret) (oR [oC 71 .eql 20 5,oI 70 71] (oT 70 (oR [oI 72 3,oI 73 72,oG 73 (oI 74 4),oP 75 73 74,oI 76 75,oG 76 (oI 77 5),oP 78 76 77,oI 79 78,oG 79 (oI 80 6),oP 81 79 80,oI 2 81] .ret))))))))))) (oR [oV 2 (.bool false)] .ret)))
def zed:IFun:=⟨82,[.slot 2],zfx,6,0,zbd⟩
theorem zeR:zbi Tryz.prog [1048577] 0 zu6=some zed:=by kernel_rfl
def zxK:ICode:=oR [oO 1 .boxL [s_ 0],oV 2 (.bool false)] (.seq (oR [oF 4 1 1,oM 5 5 4,oO 6 (.call zvb) [s_ 5],oO 7 (.un .not) [s_ 6]] (oT 7 (oR [oV 2 (.bool false)] .ret))) (oR [oF 8 6 1,oM 9 3 8,oO 10 (.build [n_ 0,n_ 0,.str ⟨#[]⟩] []) [],oO 11 (.eqv false [(.int .i64),(.int .i64),.str]) [s_ 9,s_ 10],oI 3 11] (.seq (oR [oF 12 0 1,oL 13 1 12] (.block 0 (.seq (oR [oC 15 .eql 13 1,oI 14 15] (.cond (s_ 14) .skip (.region [oC 16 .eql 13 2,oI 14 16]))) (.cond (s_ 14) (oR [oI 17 3,oI 18 17,oG 18 (oF 19 1 1),oG 18 (oM 20 5 19),oG 18 (oO 21 (.call zyY) [s_ 20]),oG 18 (oO 22 (.un .not) [s_ 21]),oP 23 18 22,oI 2 23] .ret) (oR [oC 25 .eql 13 3,oI 24 25] (.cond (s_ 24) (oR [oF 26 1 1,oM 27 5 26,oO 28 (.call zyY) [s_ 27],oI 29 28,oG 29 (oF 30 6 1),oG 29 (oM 31 3 30),oG 29 (oO 32 (.call zvc) [s_ 31]),oP 33 29 32,oI 2 33] .ret) (oR [oC 35 .eql 13 4,oI 34 35] (oT 34 (oR [oI 36 3,oI 37 36,oG 37 (oF 38 1 1),oG 37 (oM 39 5 38),oG 37 (oO 40 (.call zyY) [s_ 39]),oP 41 37 40,oI 2 41] .ret))))))))) (oR [oV 2 (.bool false)] .ret))))
def zuj:IFun:=⟨42,[.slot 2],zxK,6,0,zbd⟩
theorem zmr:zbi Tryz.prog [1048577] 0 zBQ=some zuj:=by kernel_rfl
def b_x3:ICode:=oR [oV 2 (.bool false)] (oR [oI 3 0,oI 4 0,oB 5 .neq 3 4,oI 2 5] .ret)
def F_x3:IFun:=⟨6,[.slot 2],b_x3,6,0,zbd⟩
theorem c_cmp_isNaNint:zbi Tryz.prog [] 0 f_x3=some F_x3:=by kernel_rfl
def zAc:IFun:=⟨8,[],.trap,0,30,zj4⟩
def b_x69:ICode:=oR [oO 2 .boxL [s_ 0],oO 3 .boxL [s_ 1],oV 4 (n_ 0)] (oR [oF 5 0 2,oK 2 (oL 6 1 5),oF 7 0 3,oK 3 (oL 8 1 7),oO 9 (.call f_x0) [s_ 6,s_ 8],oF 10 1 2,oK 2 (oL 11 1 10),oF 12 1 3,oK 3 (oL 13 1 12),oO 14 (.call f_x0) [s_ 11,s_ 13],oF 15 2 2,oK 2 (oL 16 1 15),oF 17 2 3,oK 3 (oL 18 1 17),oO 19 (.call f_x1) [s_ 16,s_ 18],oO 20 (.buildSl 1 3 (n_ 0) [0,1,2]) [s_ 9,s_ 14,s_ 19],oO 21 (.call f_x2) [s_ 20],oI 4 21] .ret)
def F_x69:IFun:=⟨22,[.slot 4],b_x69,6,0,zbd⟩
theorem c_value_Compare:zbi Tryz.prog [1048578,1048579] 0 f_x69=some F_x69:=by kernel_rfl
def zi5:ICode:=.seq (oR [oI 29 5,oI 30 4,oO 31 .lensl [s_ 30],oB 32 .lss 29 31] (oE 32 2)) (.seq (.block 3 (oR [oI 35 4,oI 36 5,oX 37 3 35 36,⟨some 38,none,.load 3 true,[s_ 37],(some (.heap))⟩,oI 39 4,oI 40 5,oC 41 .sub 40 1,oX 42 3 39 41,⟨some 43,none,.load 3 true,[s_ 42],(some (.heap))⟩,oO 44 (.eqv true [(.int .i64),(.int .i64),.str]) [s_ 38,s_ 43]] (oT 44 (oR [oI 45 0,oI 46 3,oI 47 4,oI 48 5,oX 49 3 47 48,oM 50 3 49,oX 51 3 45 46,oS 3 51 50] (.region [oI 52 3,oC 53 .add 52 1,oI 3 53]))))) (.region [oI 33 5,oC 34 .add 33 1,oI 5 34]))
def zhx:ICode:=.seq (oR [oI 10 3,oI 11 0,oO 12 .lensl [s_ 11],oB 13 .lss 10 12] (oE 13 0)) (.seq (.block 1 (oR [oI 16 0,oI 17 3,oX 18 3 16 17,⟨some 19,none,.load 3 true,[s_ 18],(some (.heap))⟩,oI 20 0,oI 21 3,oC 22 .sub 21 1,oX 23 3 20 22,⟨some 24,none,.load 3 true,[s_ 23],(some (.heap))⟩,oO 25 (.eqv false [(.int .i64),(.int .i64),.str]) [s_ 19,s_ 24]] (oT 25 (oR [oI 26 0,oI 27 3,oO 28 (.slsl 3 true false false) [s_ 26,s_ 27],oI 4 28] (.seq (oR [oV 5 (n_ 1)] (.block 2 (.loop zi5))) (oR [oI 54 0,oI 55 3,oO 56 (.slsl 3 true false false) [s_ 54,s_ 55],⟨none,none,.clearR 3 ((.agg [n_ 0,n_ 0,.str ⟨#[]⟩])),[s_ 56],none⟩] (oR [oI 57 0,oI 58 3,oO 59 (.slsl 3 false true false) [s_ 57,s_ 58],oI 2 59] .ret))))))) (.region [oI 14 3,oC 15 .add 14 1,oI 3 15]))
def zxL:ICode:=oR [oV 2 .nilsl] (.seq (oR [oI 6 0,oO 7 .lensl [s_ 6],oC 8 .lss 7 2] (oT 8 (oR [oI 9 0,oI 2 9] .ret))) (.seq (oR [oV 3 (n_ 1)] (.block 0 (.loop zhx))) (oR [oI 60 0,oI 2 60] .ret)))
def zms:IFun:=⟨61,[.slot 2],zxL,6,0,zbd⟩
theorem zcb:zbi Tryz.prog [3145746,3145751,3145765,3145770] 0 zoK=some zms:=by kernel_rfl
def b_x4:ICode:=oR [oV 2 (.bool false)] (oR [oI 3 0,oI 4 0,oB 5 .neq 3 4,oI 2 5] .ret)
def F_x4:IFun:=⟨6,[.slot 2],b_x4,6,0,zbd⟩
theorem c_cmp_isNaNstring:zbi Tryz.prog [] 0 f_x4=some F_x4:=by kernel_rfl
def zAd:ICode:=oR [oV 2 (.bool false)] (oR [oI 3 0,oO 4 (.bin .geq) [s_ 3,.val (.int .u8 97)],oI 5 4,oG 5 (oI 6 0),oG 5 (oO 7 (.bin .leq) [s_ 6,.val (.int .u8 122)]),oP 8 5 7,oI 9 8,oH 9 (oI 10 0),oH 9 (oO 11 (.bin .geq) [s_ 10,.val (.int .u8 65)]),oH 9 (oI 12 11),oG 12 (oI 13 0),oG 12 (oO 14 (.bin .leq) [s_ 13,.val (.int .u8 90)]),oH 9 (oP 15 12 14),oQ 16 9 15,oI 2 16] .ret)
def zrJ:IFun:=⟨17,[.slot 2],zAd,6,0,zbd⟩
theorem ziK:zbi Tryz.prog [] 0 zq4=some zrJ:=by kernel_rfl
def zrK:ICode:=oR [oV 2 (.bool false)] (oR [oI 3 0,oO 4 (.call zq4) [s_ 3],oI 5 4,oH 5 (oI 6 0),oH 5 (oO 7 (.bin .geq) [s_ 6,.val (.int .u8 48)]),oH 5 (oI 8 7),oG 8 (oI 9 0),oG 8 (oO 10 (.bin .leq) [s_ 9,.val (.int .u8 57)]),oH 5 (oP 11 8 10),oQ 12 5 11,oI 13 12,oH 13 (oI 14 0),oH 13 (oO 15 (.bin .eql) [s_ 14,.val (.int .u8 95)]),oQ 16 13 15,oI 2 16] .ret)
def zkU:IFun:=⟨17,[.slot 2],zrK,6,0,zbd⟩
theorem zjV:zbi Tryz.prog [] 0 zu8=some zkU:=by kernel_rfl
def zvh:IFun:=⟨8,[],.trap,0,11,zbd⟩
def zfy:ICode:=oR [oB 8 .lss 7 6] (.seq (oE 8 0) (.seq (.block 1 (oR [oX 9 1 5 7,oL 10 1 9,oI 4 10] (oR [oI 11 4,oO 12 (.call zoJ) [s_ 11],oO 13 (.un .not) [s_ 12]] (oT 13 (oR [oV 2 (.bool false)] .ret))))) (.region [oC 14 .add 7 1,oI 7 14])))
def zoU:ICode:=oR [oV 2 (.bool false)] (.seq (oR [oI 5 0,oO 6 .lensl [s_ 5],oV 7 (n_ 0)] (.block 0 (.loop zfy))) (oR [oV 2 (.bool true)] .ret))
def ziL:IFun:=⟨15,[.slot 2],zoU,6,0,zbd⟩
theorem zjW:zbi Tryz.prog [] 0 zge=some ziL:=by kernel_rfl
def zrL:IFun:=⟨8,[],.trap,176,20,zbd⟩
def zAe:ICode:=oR [oV 2 (.str ⟨#[]⟩)] (oR [oI 3 0,oO 4 (.call zvd) [s_ 3],oI 2 4] .ret)
def zrM:IFun:=⟨5,[.slot 2],zAe,6,0,zbd⟩
theorem zeS:zbi Tryz.prog [] 0 zu9=some zrM:=by kernel_rfl
def zvi:IFun:=⟨8,[],.trap,0,12,zbd⟩
def zi6:ICode:=oR [oB 11 .lss 10 9] (.seq (oE 11 0) (.seq (.block 1 (oR [oX 12 1 8 10,oL 13 1 12,oI 5 13] (.seq (oR [oI 14 5,oO 15 (.bin .eql) [s_ 14,.val (.int .u8 39)],oI 16 15,oH 16 (oI 17 5),oH 16 (oO 18 (.bin .eql) [s_ 17,.val (.int .u8 92)]),oQ 19 16 18] (oT 19 (.region [oO 20 (.call zmh) [s_ 3,.val (.int .u8 92)]]))) (.region [oI 21 5,oO 22 (.call zmh) [s_ 3,s_ 21]])))) (.region [oC 23 .add 10 1,oI 10 23])))
def zAf:ICode:=oR [oV 2 (.str ⟨#[]⟩)] (oR [oO 3 (.allocH 176 [.nilptr,.nilsl]) []] (oR [oO 6 (.call zmh) [s_ 3,.val (.int .u8 39)]] (.seq (oR [oI 7 0,oO 8 .s2b [s_ 7],oO 9 .lensl [s_ 8],oV 10 (n_ 0)] (.block 0 (.loop zi6))) (oR [oO 24 (.call zmh) [s_ 3,.val (.int .u8 39)]] (oR [oO 25 (.call zxv) [s_ 3],oI 2 25] .ret)))))
def zrN:IFun:=⟨26,[.slot 2],zAf,6,1,zbd⟩
theorem ziM:zbi Tryz.prog [3,2097280] 1 zva=some zrN:=by kernel_rfl
def zhy:ICode:=oR [oO 1 .boxL [s_ 0],oV 2 (.bool false)] (.seq (oR [oF 3 0 1,oL 4 1 3] (.block 0 (oR [oC 6 .eql 4 1,oI 5 6] (.cond (s_ 5) (oR [oF 7 1 1,oL 8 1 7,oO 9 (.buildSl 1 1 (.str ⟨#[]⟩) [0]) [s_ 8],oO 10 (.call zge) [s_ 9],oI 11 10,oG 11 (oF 12 2 1),oG 11 (oL 13 1 12),oG 11 (oF 14 3 1),oG 11 (oL 15 1 14),oG 11 (oF 16 4 1),oG 11 (oL 17 1 16),oG 11 (oO 18 (.buildSl 1 3 (.str ⟨#[]⟩) [0,1,2]) [s_ 13,s_ 15,s_ 17]),oG 11 (oO 19 (.call zjK) [s_ 18]),oP 20 11 19,oI 2 20] .ret) (.seq (oR [oC 22 .eql 4 2,oI 21 22] (.cond (s_ 21) .skip (.region [oC 23 .eql 4 4,oI 21 23]))) (.cond (s_ 21) (oR [oF 24 1 1,oL 25 1 24,oF 26 4 1,oL 27 1 26,oO 28 (.buildSl 1 2 (.str ⟨#[]⟩) [0,1]) [s_ 25,s_ 27],oO 29 (.call zge) [s_ 28],oI 30 29,oG 30 (oF 31 2 1),oG 30 (oL 32 1 31),oG 30 (oF 33 3 1),oG 30 (oL 34 1 33),oG 30 (oO 35 (.buildSl 1 2 (.str ⟨#[]⟩) [0,1]) [s_ 32,s_ 34]),oG 30 (oO 36 (.call zjK) [s_ 35]),oP 37 30 36,oI 2 37] .ret) (oR [oC 39 .eql 4 3,oI 38 39] (.cond (s_ 38) (oR [oF 40 1 1,oL 41 1 40,oF 42 2 1,oL 43 1 42,oF 44 3 1,oL 45 1 44,oO 46 (.buildSl 1 3 (.str ⟨#[]⟩) [0,1,2]) [s_ 41,s_ 43,s_ 45],oO 47 (.call zge) [s_ 46],oI 48 47,oG 48 (oF 49 4 1),oG 48 (oL 50 1 49),oG 48 (oO 51 (.buildSl 1 1 (.str ⟨#[]⟩) [0]) [s_ 50]),oG 48 (oO 52 (.call zjK) [s_ 51]),oP 53 48 52,oI 2 53] .ret) (oR [oC 55 .eql 4 5,oI 54 55] (oT 54 (oR [oF 56 1 1,oL 57 1 56,oF 58 2 1,oL 59 1 58,oF 60 3 1,oL 61 1 60,oF 62 4 1,oL 63 1 62,oO 64 (.buildSl 1 4 (.str ⟨#[]⟩) [0,1,2,3]) [s_ 57,s_ 59,s_ 61,s_ 63],oO 65 (.call zge) [s_ 64],oI 2 65] .ret))))))))))) (oR [oV 2 (.bool false)] .ret))
def zfz:IFun:=⟨66,[.slot 2],zhy,6,0,zbd⟩
theorem zkV:zbi Tryz.prog [1048577] 0 zvb=some zfz:=by kernel_rfl
def zCp:ICode:=oR [oO 1 .boxL [s_ 0],oV 2 (.bool false)] (oR [oF 3 0 1,oL 4 1 3,oC 5 .eql 4 4,oI 6 5,oH 6 (oF 7 0 1),oH 6 (oL 8 1 7),oH 6 (oC 9 .eql 8 5),oQ 10 6 9,oI 2 10] .ret)
def zyZ:IFun:=⟨11,[.slot 2],zCp,6,0,zbd⟩
theorem zkW:zbi Tryz.prog [1048577] 0 zyY=some zyZ:=by kernel_rfl
def zvj:ICode:=oR [oO 1 .boxL [s_ 0],oV 2 (.bool false)] (oR [oF 3 0 1,oL 4 1 3,oC 5 .geq 4 1,oI 6 5,oG 6 (oF 7 0 1),oG 6 (oL 8 1 7),oG 6 (oC 9 .leq 8 3),oP 10 6 9,oI 11 10,oG 11 (oM 12 3 1),oG 11 (oO 13 (.call zqV) [s_ 12]),oP 14 11 13,oI 2 14] .ret)
def zmt:IFun:=⟨15,[.slot 2],zvj,6,0,zbd⟩
theorem ziN:zbi Tryz.prog [1048577] 0 zvc=some zmt:=by kernel_rfl
def zAg:ICode:=oR [oV 2 (.str ⟨#[]⟩)] (.seq (oR [oI 3 0] (oT 3 (oR [oV 2 (.str ⟨#[116,114,117,101]⟩)] .ret))) (oR [oV 2 (.str ⟨#[102,97,108,115,101]⟩)] .ret))
def zrO:IFun:=⟨4,[.slot 2],zAg,6,0,zbd⟩
theorem zdd:zbi Tryz.prog [] 0 zvd=some zrO:=by kernel_rfl
def zAh:ICode:=oR [oV 4 .niliface] (oR [oI 5 0,oO 6 (.call zxx) [s_ 5]] (oR [oI 7 0,oI 8 0,oO 9 .nilchk [s_ 8],oF 10 1 9,oL 11 1 10,oI 12 1,oO 13 (.buildSl 1 1 (.int .u8 0) [0]) [s_ 12],oO 14 (.append 5 1 1) [s_ 11,s_ 13],oO 15 .nilchk [s_ 7],oF 16 1 15,oS 1 16 14] (oR [oV 4 .niliface] .ret)))
def zrP:IFun:=⟨17,[.slot 4],zAh,6,0,zbd⟩
theorem zc1:zbi Tryz.prog [] 0 zmh=some zrP:=by kernel_rfl
def zAi:ICode:=oR [oV 2 (.bool false)] (oR [oI 3 0,oO 4 (.call zjJ) [s_ 3,.val (.str ⟨#[]⟩)],oO 5 (.bin .eql) [s_ 4,.val (.str ⟨#[]⟩)],oI 2 5] .ret)
def zrQ:IFun:=⟨6,[.slot 2],zAi,6,0,zbd⟩
theorem zjX:zbi Tryz.prog [2097231] 0 zjK=some zrQ:=by kernel_rfl
def rows:List (Nat × List Nat × IFun):=[ (6,[1048582,1048584,1048585,1048586,1048590,2097174,2097182,2097183,2097184,2097178,2097177],zq6), (10,[1048577],zq7), (12,[1048577,1048579,2097201],zgf), (13,[1048579,1048581,1048583],zra), (14,[3],zrb), (15,[3,1048582,8388613],zrc), (16,[15,1048581,1048583,33554432,8388645],zrf), (22,[2097183,2097178,2097182,2097192,2097180,2097229,2097230],zzJ), (23,[1048580],zrg), (24,[1048581],zri), (25,[],zrj), (26,[1048585,2097180,2097231,2097229,2097232,2097183,2097230],zro), (28,[],zrp), (30,[2097229],zrq), (31,[],zrr), (32,[],zrs), (40,[1048579,2097230],zzS), (47,[],zrt), (48,[],zoM), (49,[1048578,3145765,3145768,3145771],ziE), (50,[1048577,1048579],zjL), (51,[1048577],zxA), (52,[1048583],zmk), (53,[16777223],zml), (54,[1048578],zru), (55,[1048578,1048579],zoO), (56,[1048580],zrv), (57,[1048578,1048579],zrw), (58,[],zzY), (59,[1048580],zoP), (61,[1048581,1048582,2097229,2097262,2097263,2097264,33554432,16777303],zdx), (62,[],zzZ), (63,[1048578,1048579],F_x23), (65,[1048577,1048579],zgh), (77,[1048578],zrx), (78,[1048577,1048578],zry), (79,[],zvf), (80,[1048581,1048584,2097231],zrz), (83,[],zmm), (85,[],zmn), (94,[7,3145758,3145766],zrA), (95,[1048577],zhv), (96,[1048578,1048579],zoQ), (97,[1048577],zrB), (98,[1048577],zz6), (99,[1048577,1048578],zz7), (100,[],zmo), (101,[1048577],zmp), (102,[],F_x2), (103,[],F_x0), (106,[1048579,8388612],zmq), (107,[],zz8), (108,[1048578,1048579],F_x54), (109,[1048578,1048579],F_x52), (110,[1048577,1048578],zrD), (111,[1048577,1048578,2097262,2097230,2097229],zoS), (112,[1048579,1048583,16777236,8388612],zrF), (115,[],F_x1), (116,[],zrG), (117,[],zkR), (118,[1048577,1048578,2097308],zjT), (128,[],zrI), (129,[1048577,2097317,2097318],zg2), (135,[1048577],zed), (136,[1048577],zuj), (137,[],F_x3), (140,[],zAc), (141,[1048578,1048579],F_x69), (142,[3145746,3145751,3145765,3145770],zms), (153,[],F_x4), (154,[],zrJ), (155,[],zkU), (156,[],zvh), (157,[],ziL), (162,[],zrL), (164,[],zrM), (165,[],zvi), (166,[3,2097280],zrN), (171,[1048577],zfz), (172,[1048577],zyZ), (173,[1048577],zmt), (194,[],zrO), (196,[],zrP), (197,[2097231],zrQ)]
def T:Nat→Option IFun:=zdQ rows
theorem T_rows:RowsOk Tryz.prog rows:=.cons zc7 (by decide) <| .cons zd6 (by decide) <| .cons zd7 (by decide) <| .cons zdX (by decide) <| .cons zmi (by decide) <| .cons zgZ (by decide) <| .cons zoL (by decide) <| .cons zd8 (by decide) <| .cons ze4 (by decide) <| .cons zeL (by decide) <| .cons zeM (by decide) <| .cons zft (by decide) <| .cons zfu (by decide) <| .cons zg0 (by decide) <| .cons zfv (by decide) <| .cons ze5 (by decide) <| .cons zeN (by decide) <| .cons zd9 (by decide) <| .cons zeO (by decide) <| .cons zeP (by decide) <| .cons zea (by decide) <| .cons zjM (by decide) <| .cons zbz (by decide) <| .cons zbU (by decide) <| .cons zfw (by decide) <| .cons ziF (by decide) <| .cons za0 (by decide) <| .cons zjN (by decide) <| .lib zbA (by decide) <| .cons zgg (by decide) <| .cons zg1 (by decide) <| .lib zbS (by decide) <| .cons c_graph_order (by decide) <| .cons zjP (by decide) <| .cons zkK (by decide) <| .cons zkL (by decide) <| .lib zDl (by decide) <| .cons zgi (by decide) <| .cons zc8 (by decide) <| .cons zcx (by decide) <| .cons zeb (by decide) <| .cons zdY (by decide) <| .cons zjQ (by decide) <| .cons ziH (by decide) <| .cons ziI (by decide) <| .cons zoR (by decide) <| .cons zbG (by decide) <| .cons zkO (by decide) <| .cons c_cmp_Orint (by decide) <| .cons c_cmp_Compareint (by decide) <| .cons zec (by decide) <| .lib zbB (by decide) <| .cons c_store_Store_All_1 (by decide) <| .cons c_store_Order (by decide) <| .cons zkP (by decide) <| .cons zjR (by decide) <| .cons zeQ (by decide) <| .cons c_cmp_Comparestring (by decide) <| .cons zjS (by decide) <| .cons zkS (by decide) <| .cons zkT (by decide) <| .lib zDo (by decide) <| .cons ziJ (by decide) <| .cons zeR (by decide) <| .cons zmr (by decide) <| .cons c_cmp_isNaNint (by decide) <| .lib zbI (by decide) <| .cons c_value_Compare (by decide) <| .cons zcb (by decide) <| .cons c_cmp_isNaNstring (by decide) <| .cons ziK (by decide) <| .cons zjV (by decide) <| .lib zDm (by decide) <| .cons zjW (by decide) <| .lib zDp (by decide) <| .cons zeS (by decide) <| .lib zDn (by decide) <| .cons ziM (by decide) <| .cons zkV (by decide) <| .cons zkW (by decide) <| .cons ziN (by decide) <| .cons zdd (by decide) <| .cons zc1 (by decide) <| .cons zjX (by decide) <| .nil
theorem T_ok:zcq Tryz.prog T:=zgG (by kernel_rfl) T_rows.all
theorem zAj:T zkJ=some zq6:=by kernel_rfl
theorem zCq:T zuO=some zq7:=by kernel_rfl
theorem zCr:T zuP=some zgf:=by kernel_rfl
theorem zCs:T zqQ=some zra:=by kernel_rfl
theorem zCt:T zoE=some zrb:=by kernel_rfl
theorem zCu:T zhu=some zrc:=by kernel_rfl
theorem zCv:T zmb=some zrf:=by kernel_rfl
theorem zCw:T zqR=some zrg:=by kernel_rfl
theorem zCx:T zmc=some zri:=by kernel_rfl
theorem zCy:T zuR=some zrj:=by kernel_rfl
theorem zCz:T zmd=some zro:=by kernel_rfl
theorem zCA:T zqS=some zrp:=by kernel_rfl
theorem zCB:T zoF=some zrq:=by kernel_rfl
theorem zCC:T zoG=some zrr:=by kernel_rfl
theorem zCD:T zuS=some zrs:=by kernel_rfl
theorem zCE:T zuT=some zrt:=by kernel_rfl
theorem zCF:T zgY=some zoM:=by kernel_rfl
theorem zCG:T zqT=some ziE:=by kernel_rfl
theorem zCH:T zuU=some zjL:=by kernel_rfl
theorem zEc:T zBN=some zxA:=by kernel_rfl
theorem zAk:T zme=some zmk:=by kernel_rfl
theorem zCI:T ziB=some zml:=by kernel_rfl
theorem zCJ:T zuV=some zru:=by kernel_rfl
theorem zCK:T zuW=some zoO:=by kernel_rfl
theorem zCL:T zmf=some zrv:=by kernel_rfl
theorem zCM:T zxu=some zrw:=by kernel_rfl
theorem zCN:T zuX=some zzY:=by kernel_rfl
theorem zCO:T zqU=some zoP:=by kernel_rfl
theorem zkX:T zeK=some zdx:=by kernel_rfl
theorem zAl:T zuY=some zzZ:=by kernel_rfl
theorem T_x23:T f_x23=some F_x23:=by kernel_rfl
theorem zCP:T zqV=some zgh:=by kernel_rfl
theorem zCQ:T ziC=some zrx:=by kernel_rfl
theorem zCR:T zmg=some zry:=by kernel_rfl
theorem zCS:T zjJ=some zvf:=by kernel_rfl
theorem zCT:T zqW=some zrz:=by kernel_rfl
theorem zAm:T zqX=some zmm:=by kernel_rfl
theorem zAn:T zuZ=some zmn:=by kernel_rfl
theorem zCU:T zqY=some zrA:=by kernel_rfl
theorem zCV:T zu0=some zhv:=by kernel_rfl
theorem zCW:T zu1=some zoQ:=by kernel_rfl
theorem zCX:T zu2=some zrB:=by kernel_rfl
theorem zEd:T zBO=some zz6:=by kernel_rfl
theorem zEe:T zBP=some zz7:=by kernel_rfl
theorem zAo:T zoH=some zmo:=by kernel_rfl
theorem zCY:T zqZ=some zmp:=by kernel_rfl
theorem T_x2:T f_x2=some F_x2:=by kernel_rfl
theorem T_x0:T f_x0=some F_x0:=by kernel_rfl
theorem zAp:T zoI=some zmq:=by kernel_rfl
theorem zAq:T zu3=some zz8:=by kernel_rfl
theorem T_x54:T f_x54=some F_x54:=by kernel_rfl
theorem T_x52:T f_x52=some F_x52:=by kernel_rfl
theorem zCZ:T zq0=some zrD:=by kernel_rfl
theorem zC0:T zu4=some zoS:=by kernel_rfl
theorem zC1:T zq1=some zrF:=by kernel_rfl
theorem T_x1:T f_x1=some F_x1:=by kernel_rfl
theorem zC2:T zu5=some zrG:=by kernel_rfl
theorem zC3:T zoJ=some zkR:=by kernel_rfl
theorem zC4:T zq2=some zjT:=by kernel_rfl
theorem zC5:T zxv=some zrI:=by kernel_rfl
theorem zC6:T zq3=some zg2:=by kernel_rfl
theorem zC7:T zu6=some zed:=by kernel_rfl
theorem zEf:T zBQ=some zuj:=by kernel_rfl
theorem T_x3:T f_x3=some F_x3:=by kernel_rfl
theorem zAr:T zu7=some zAc:=by kernel_rfl
theorem T_x69:T f_x69=some F_x69:=by kernel_rfl
theorem zAs:T zoK=some zms:=by kernel_rfl
theorem T_x4:T f_x4=some F_x4:=by kernel_rfl
theorem zC8:T zq4=some zrJ:=by kernel_rfl
theorem zC9:T zu8=some zkU:=by kernel_rfl
theorem zDa:T zxw=some zvh:=by kernel_rfl
theorem zAt:T zge=some ziL:=by kernel_rfl
theorem zDb:T zxx=some zrL:=by kernel_rfl
theorem zDc:T zu9=some zrM:=by kernel_rfl
theorem zDd:T zxy=some zvi:=by kernel_rfl
theorem zDe:T zva=some zrN:=by kernel_rfl
theorem zDf:T zvb=some zfz:=by kernel_rfl
theorem zEg:T zyY=some zyZ:=by kernel_rfl
theorem zDg:T zvc=some zmt:=by kernel_rfl
theorem zDh:T zvd=some zrO:=by kernel_rfl
theorem zDi:T zmh=some zrP:=by kernel_rfl
theorem zDj:T zjK=some zrQ:=by kernel_rfl
end Go.Proofs.YtchjbidfmhmmhaaGreatDoor
