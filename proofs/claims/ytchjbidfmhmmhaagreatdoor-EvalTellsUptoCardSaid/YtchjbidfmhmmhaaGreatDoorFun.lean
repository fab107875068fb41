/- Own work: the zaM machine and what it shows,part Fun. -/
import Derived.Test.YtchjbidfmhmmhaaGreatDoorChecked
import Derived.Test.YtchjbidfmhmmhaaGreatDoorShT
import Derived.Test.YtchjbidfmhmmhaaGreatDoorLib
set_option linter.all false
namespace Go.Proofs.YtchjbidfmhmmhaaGreatDoor
open Go.Sh
set_option maxRecDepth 100000
abbrev zlT:Nat:=3
abbrev zxw:Nat:=9
abbrev zxx:Nat:=10
abbrev zxy:Nat:=11
abbrev zlU:Nat:=12
abbrev zsX:Nat:=13
abbrev zsY:Nat:=14
abbrev znJ:Nat:=15
abbrev zsZ:Nat:=16
abbrev zw3:Nat:=17
abbrev znK:Nat:=18
abbrev zs0:Nat:=19
abbrev zhQ:Nat:=20
abbrev zs1:Nat:=21
abbrev zs2:Nat:=36
abbrev zqD:Nat:=37
abbrev zqE:Nat:=38
abbrev zxz:Nat:=41
abbrev zGk:Nat:=44
abbrev zAG:Nat:=45
abbrev zxA:Nat:=46
abbrev zxB:Nat:=47
abbrev zgj:Nat:=48
abbrev zlV:Nat:=49
abbrev zxC:Nat:=50
abbrev zxD:Nat:=51
abbrev znL:Nat:=52
abbrev zjr:Nat:=53
abbrev zxE:Nat:=54
abbrev zpt:Nat:=55
abbrev znM:Nat:=56
abbrev zs3:Nat:=57
abbrev zxF:Nat:=58
abbrev zlW:Nat:=59
abbrev zCX:Nat:=60
abbrev zfu:Nat:=61
abbrev zxG:Nat:=62
abbrev f_x37:Nat:=63
abbrev zAH:Nat:=64
abbrev zii:Nat:=65
abbrev zxH:Nat:=66
abbrev zxI:Nat:=67
abbrev zxJ:Nat:=68
abbrev zgk:Nat:=69
abbrev zqF:Nat:=70
abbrev zqG:Nat:=71
abbrev zjs:Nat:=72
abbrev zs4:Nat:=73
abbrev zxK:Nat:=74
abbrev zqH:Nat:=75
abbrev zxL:Nat:=76
abbrev znN:Nat:=77
abbrev zxM:Nat:=78
abbrev zs5:Nat:=79
abbrev zxN:Nat:=82
abbrev zxO:Nat:=87
abbrev zxP:Nat:=88
abbrev zqI:Nat:=89
abbrev zqJ:Nat:=90
abbrev zs6:Nat:=91
abbrev zCl:Nat:=92
abbrev znO:Nat:=93
abbrev zs7:Nat:=94
abbrev zxQ:Nat:=95
abbrev zpu:Nat:=96
abbrev zpv:Nat:=97
abbrev zxR:Nat:=98
abbrev zxS:Nat:=99
abbrev zqK:Nat:=100
abbrev zlX:Nat:=101
abbrev f_x2:Nat:=102
abbrev f_x0:Nat:=103
abbrev zjX:Nat:=106
abbrev zxT:Nat:=107
abbrev f_x97:Nat:=108
abbrev f_x95:Nat:=109
abbrev zs8:Nat:=110
abbrev zxU:Nat:=111
abbrev zlY:Nat:=112
abbrev f_x1:Nat:=115
abbrev zpw:Nat:=116
abbrev zij:Nat:=117
abbrev zgl:Nat:=118
abbrev zxV:Nat:=119
abbrev zqL:Nat:=120
abbrev znP:Nat:=121
abbrev zxW:Nat:=122
abbrev zs9:Nat:=123
abbrev zxX:Nat:=124
abbrev zxY:Nat:=125
abbrev zGl:Nat:=130
abbrev zxZ:Nat:=132
abbrev zCY:Nat:=133
abbrev zx0:Nat:=134
abbrev zx1:Nat:=135
abbrev zx2:Nat:=136
abbrev f_x3:Nat:=137
abbrev zx3:Nat:=140
abbrev f_x106:Nat:=141
abbrev zqM:Nat:=142
abbrev f_x4:Nat:=153
abbrev zlZ:Nat:=154
abbrev zpx:Nat:=155
abbrev zta:Nat:=156
abbrev zdG:Nat:=157
abbrev znQ:Nat:=158
abbrev znR:Nat:=159
abbrev zqN:Nat:=160
abbrev zx4:Nat:=161
abbrev zx5:Nat:=167
abbrev zqO:Nat:=168
abbrev ztb:Nat:=169
abbrev zCZ:Nat:=170
abbrev zpy:Nat:=171
abbrev zqP:Nat:=172
abbrev zx6:Nat:=173
abbrev zx7:Nat:=190
abbrev zx8:Nat:=191
abbrev zgm:Nat:=197
abbrev ztc:Nat:=213
def ztd:ICode:=oR [oB 41 .lss 40 39] (.seq (oE 41 0) (.seq (.block 1 (oR [oX 42 27 38 40,oM 43 27 42,oO 10 (.allocL [n_ 0,n_ 0,n_ 0,n_ 0,n_ 0,n_ 0,n_ 0,n_ 0,n_ 0,n_ 0,n_ 0,n_ 0,n_ 0,n_ 0,n_ 0,n_ 0,n_ 0,n_ 0,n_ 0,n_ 0,.str ⟨#[]⟩,.str ⟨#[]⟩,.str ⟨#[]⟩,.str ⟨#[]⟩,n_ 0,n_ 0,.str ⟨#[]⟩]) [],oS 27 10 43] (oR [oM 44 27 10,oO 45 (.call zxx) [s_ 44],oO 46 (.un .not) [s_ 45]] (oT 46 (oR [oV 8 (.bool true)] .ret))))) (.region [oC 47 .add 40 1,oI 40 47])))
def zte:ICode:=oR [oB 63 .lss 62 61] (.seq (oE 63 2) (.seq (.block 3 (oR [oX 64 4 60 62,oM 65 4 64,oO 13 (.allocL [.str ⟨#[]⟩,n_ 0,n_ 0,.str ⟨#[]⟩]) [],oS 4 13 65] (.seq (oR [oF 66 1 13,oF 67 2 66,oL 68 1 67,oO 69 .lenstr [s_ 68],oC 70 .gtr 69 200] (oT 70 (oR [oV 8 (.bool true)] .ret))) (.region [oI 71 11,oI 72 71,oG 72 (oF 73 1 13),oG 72 (oM 74 3 73),oG 72 (oO 75 (.call zlU) [s_ 74]),oP 76 72 75,oI 11 76])))) (.region [oC 77 .add 62 1,oI 62 77])))
def ztf:ICode:=oR [oB 87 .lss 86 85] (.seq (oE 87 4) (.seq (.block 5 (oR [oX 88 27 84 86,oM 89 27 88,oO 18 (.allocL [n_ 0,n_ 0,n_ 0,n_ 0,n_ 0,n_ 0,n_ 0,n_ 0,n_ 0,n_ 0,n_ 0,n_ 0,n_ 0,n_ 0,n_ 0,n_ 0,n_ 0,n_ 0,n_ 0,n_ 0,.str ⟨#[]⟩,.str ⟨#[]⟩,.str ⟨#[]⟩,.str ⟨#[]⟩,n_ 0,n_ 0,.str ⟨#[]⟩]) [],oS 27 18 89] (.region [oI 90 16,oM 91 27 18,oO 92 (.call znJ) [s_ 90,s_ 91]]))) (.region [oC 93 .add 86 1,oI 86 93])))
def ztg:ICode:=oR [oV 8 (.bool false)] (.seq (oR [oO 23 (.call zxw) [],oO 24 (.un .not) [s_ 23]] (oT 24 (oR [oV 8 (.bool false)] .ret))) (.seq (oR [oI 25 0,oO 26 .lensl [s_ 25],oC 27 .gtr 26 40,oI 28 27,oH 28 (oI 29 2),oH 28 (oO 30 .lensl [s_ 29]),oH 28 (oC 31 .gtr 30 12),oQ 32 28 31,oI 33 32,oH 33 (oI 34 3),oH 33 (oO 35 .lensl [s_ 34]),oH 33 (oC 36 .gtr 35 30),oQ 37 33 36] (oT 37 (oR [oV 8 (.bool true)] .ret))) (.seq (oR [oI 38 3,oO 39 .lensl [s_ 38],oV 40 (n_ 0)] (.block 0 (.loop ztd))) (oR [oI 48 0,oO 49 (.call zxy) [s_ 48],oI 50 49,oG 50 (oI 51 1),oG 50 (oC 52 .geq 51 0),oP 53 50 52,oI 54 53,oG 54 (oI 55 1),oG 54 (oI 56 0),oG 54 (oO 57 .lensl [s_ 56]),oG 54 (oB 58 .lss 55 57),oP 59 54 58,oI 11 59] (.seq (oR [oI 60 2,oO 61 .lensl [s_ 60],oV 62 (n_ 0)] (.block 2 (.loop zte))) (oR [oI 79 3,oO 80 (.call zsX) [s_ 79],oI 78 80,oO 81 (.extract 0) [s_ 78],oO 82 (.extract 1) [s_ 78],oO 15 (.allocL [n_ 0,n_ 0,n_ 0,n_ 0,n_ 0,n_ 0,n_ 0,n_ 0,n_ 0,n_ 0,n_ 0,n_ 0,n_ 0,n_ 0,n_ 0,n_ 0]) [],oI 14 81,oS 16 15 82] (oR [oO 83 (.call zsY) [],oI 16 83] (.seq (oR [oI 84 14,oO 85 .lensl [s_ 84],oV 86 (n_ 0)] (.block 4 (.loop ztf))) (oR [oI 94 16,oO 95 (.call zsZ) [s_ 94],oI 19 95] (oR [oI 97 0,oI 98 1,oI 99 2,oI 100 19,oO 101 (.call zw3) [s_ 97,s_ 98,s_ 99,s_ 100],oI 96 101,oO 102 (.extract 0) [s_ 96],oO 103 (.extract 1) [s_ 96],oO 20 (.allocL [n_ 0,n_ 0,.str ⟨#[]⟩]) [],oS 3 20 102,oI 21 103] (.seq (oR [oI 104 11,oO 105 (.un .not) [s_ 104]] (oT 105 (oR [oI 106 21,oC 107 .eql 106 1,oI 108 107,oG 108 (oM 109 3 20),oG 108 (oO 110 (.build [n_ 0,n_ 0,.str ⟨#[]⟩] []) []),oG 108 (oO 111 (.eqv false [(.int .i64),(.int .i64),.str]) [s_ 109,s_ 110]),oP 112 108 111,oI 113 112,oG 113 (oI 114 0),oG 113 (oI 115 1),oG 113 (oI 116 2),oG 113 (oI 117 19),oG 113 (oO 118 (.call znK) [s_ 114,s_ 115,s_ 116,s_ 117]),oG 113 (oO 119 (.un .not) [s_ 118]),oP 120 113 119,oI 8 120] .ret))) (.seq (oR [oI 121 0,oI 122 1,oO 123 (.call zs0) [s_ 121,s_ 122],oC 124 .gtr 123 400] (oT 124 (oR [oV 8 (.bool true)] .ret))) (oR [oI 125 0,oI 126 1,oI 127 2,oO 128 (.call zs1) [s_ 127],oI 129 14,oO 130 (.call zhQ) [s_ 125,s_ 126,s_ 128,s_ 129],oO 22 (.allocL [n_ 0,n_ 0,.str ⟨#[]⟩]) [],oS 3 22 130] (oR [oI 131 21,oC 132 .eql 131 0,oI 133 132,oK 20 (oG 133 (oM 134 3 20)),oK 22 (oG 133 (oM 135 3 22)),oG 133 (oO 136 (.eqv false [(.int .i64),(.int .i64),.str]) [s_ 134,s_ 135]),oP 137 133 136,oI 138 137,oG 138 (oI 139 0),oG 138 (oI 140 1),oG 138 (oI 141 2),oG 138 (oI 142 19),oG 138 (oO 143 (.callP znK) [s_ 139,s_ 140,s_ 141,s_ 142]),oK 22 (oG 138 (oM 144 3 22)),oG 138 (oO 145 (.build [n_ 0,n_ 0,.str ⟨#[]⟩] [(0,1),(1,1)]) [.val (n_ 1),.val (n_ 1)]),oG 138 (oO 146 (.eqv false [(.int .i64),(.int .i64),.str]) [s_ 144,s_ 145]),oG 138 (oO 147 (.eq1 false .bool) [s_ 143,s_ 146]),oP 148 138 147,oI 8 148] .ret))))))))))))))
def zth:IFun:=⟨149,[.slot 8],ztg,6,0,zaW⟩
theorem zdy:zaX Tryz.prog [1048586,1048589,1048591,1048594,1048596,1048598,2097161,2097169,2097170,2097171,2097173,2097172] 0 zlT=some zth:=by kernel_rfl
def zGm:ICode:=oR [oV 0 (.bool false)] (oR [oO 10 (.build [n_ 0,n_ 0,n_ 0,.str ⟨#[]⟩,.str ⟨#[]⟩,.str ⟨#[]⟩,n_ 0,n_ 0] [(0,1)]) [.val (n_ 1)],oO 1 (.allocL [n_ 0,n_ 0,n_ 0,.str ⟨#[]⟩,.str ⟨#[]⟩,.str ⟨#[]⟩,n_ 0,n_ 0]) [],oS 8 1 10] (oR [oM 11 8 1,oO 12 (.build [n_ 0,n_ 0,n_ 0,.str ⟨#[]⟩,.str ⟨#[]⟩,.str ⟨#[]⟩,n_ 0,n_ 0] [(0,1),(6,1),(7,1)]) [.val (n_ 10),.val (n_ 0),.val (n_ 0)],oO 13 (.build [n_ 0,n_ 0,n_ 0,.str ⟨#[]⟩,.str ⟨#[]⟩,.str ⟨#[]⟩,n_ 0,n_ 0] [(0,1),(6,1)]) [.val (n_ 5),.val (n_ 0)],oO 14 (.build [n_ 0,n_ 0,.str ⟨#[]⟩] [(0,1),(1,1)]) [.val (n_ 1),.val (n_ 1)],oO 15 (.build [n_ 0,n_ 0,n_ 0,.str ⟨#[]⟩,.str ⟨#[]⟩,.str ⟨#[]⟩,n_ 0,n_ 0] [(0,1),(1,3)]) [.val (n_ 1),s_ 14],oO 16 (.build [n_ 0,n_ 0,n_ 0,.str ⟨#[]⟩,.str ⟨#[]⟩,.str ⟨#[]⟩,n_ 0,n_ 0] [(0,1),(6,1),(7,1)]) [.val (n_ 8),.val (n_ 2),.val (n_ 3)],oO 17 (.build [n_ 0,n_ 0,.str ⟨#[]⟩] [(0,1),(1,1)]) [.val (n_ 2),.val (n_ 1099511627776)],oO 18 (.build [n_ 0,n_ 0,n_ 0,.str ⟨#[]⟩,.str ⟨#[]⟩,.str ⟨#[]⟩,n_ 0,n_ 0] [(0,1),(1,3)]) [.val (n_ 1),s_ 17],oO 19 (.build [n_ 0,n_ 0,n_ 0,.str ⟨#[]⟩,.str ⟨#[]⟩,.str ⟨#[]⟩,n_ 0,n_ 0] [(0,1),(6,1),(7,1)]) [.val (n_ 18),.val (n_ 5),.val (n_ 5)],oO 20 (.buildSl 8 7 (.agg [n_ 0,n_ 0,n_ 0,.str ⟨#[]⟩,.str ⟨#[]⟩,.str ⟨#[]⟩,n_ 0,n_ 0]) [0,1,2,3,4,5,6]) [s_ 11,s_ 12,s_ 13,s_ 15,s_ 16,s_ 18,s_ 19],oI 2 20] (oR [oI 22 2,oO 23 (.call zw3) [s_ 22,.val (n_ 1),.val .nilsl,.val .nilptr],oI 21 23,oO 24 (.extract 0) [s_ 21],oO 25 (.extract 1) [s_ 21],oO 3 (.allocL [n_ 0,n_ 0,.str ⟨#[]⟩]) [],oS 3 3 24,oI 4 25] (oR [oI 27 2,oO 28 (.call zw3) [s_ 27,.val (n_ 6),.val .nilsl,.val .nilptr],oI 26 28,oO 29 (.extract 0) [s_ 26],oO 30 (.extract 1) [s_ 26],oO 5 (.allocL [n_ 0,n_ 0,.str ⟨#[]⟩]) [],oS 3 5 29,oI 6 30] (oR [oI 32 2,oO 33 (.call zw3) [s_ 32,.val (n_ 7),.val .nilsl,.val .nilptr],oI 31 33,oO 34 (.extract 0) [s_ 31],oO 35 (.extract 1) [s_ 31],oO 7 (.allocL [n_ 0,n_ 0,.str ⟨#[]⟩]) [],oS 3 7 34,oI 8 35] (oR [oO 36 (.build [n_ 0,n_ 0,.str ⟨#[]⟩] [(0,1),(2,1)]) [.val (n_ 4),.val (.str ⟨#[97]⟩)],oO 37 (.build [.str ⟨#[]⟩,n_ 0,n_ 0,.str ⟨#[]⟩] [(0,1),(1,3)]) [.val (.str ⟨#[110]⟩),s_ 36],oO 38 (.buildSl 4 1 (.agg [.str ⟨#[]⟩,n_ 0,n_ 0,.str ⟨#[]⟩]) [0]) [s_ 37],oI 9 38] (oR [oM 39 3 3,oO 40 (.build [n_ 0,n_ 0,.str ⟨#[]⟩] []) [],oO 41 (.eqv false [(.int .i64),(.int .i64),.str]) [s_ 39,s_ 40],oI 42 41,oG 42 (oI 43 4),oG 42 (oC 44 .eql 43 0),oP 45 42 44,oI 46 45,oG 46 (oI 47 2),oG 46 (oO 48 (.call znK) [s_ 47,.val (n_ 4),.val .nilsl,.val .nilptr]),oP 49 46 48,oI 50 49,oG 50 (oI 51 2),oG 50 (oO 52 (.call znK) [s_ 51,.val (n_ 1),.val .nilsl,.val .nilptr]),oG 50 (oO 53 (.un .not) [s_ 52]),oP 54 50 53,oI 55 54,oG 55 (oF 56 1 5),oG 55 (oL 57 1 56),oG 55 (oC 58 .eql 57 1099511627776),oP 59 55 58,oI 60 59,oG 60 (oI 61 8),oG 60 (oC 62 .eql 61 1),oP 63 60 62,oI 64 63,oG 64 (oI 65 9),oG 64 (oO 66 (.call zGk) [s_ 65,.val (.str ⟨#[110]⟩)]),oP 67 64 66,oI 68 67,oG 68 (oI 69 9),oG 68 (oO 70 (.call zGk) [s_ 69,.val (.str ⟨#[109]⟩)]),oG 68 (oO 71 (.un .not) [s_ 70]),oP 72 68 71,oI 73 72,oG 73 (oI 74 9),oG 73 (oO 75 (.call zAG) [s_ 74,.val (.str ⟨#[110]⟩)]),oG 73 (oO 76 (.field 2 1 false) [s_ 75]),oG 73 (oO 77 (.bin .eql) [s_ 76,.val (.str ⟨#[97]⟩)]),oP 78 73 77,oI 0 78] .ret)))))))
def zC0:IFun:=⟨79,[.slot 0],zGm,6,2,zaW⟩
theorem zeB:zaX Tryz.prog [1048577,1048579,1048581,1048583,2097169,2097170] 2 zxw=some zC0:=by kernel_rfl
def zC1:ICode:=oR [oO 1 .boxL [s_ 0],oV 2 (.bool false)] (oR [oF 3 19 1,oF 4 1 3,oL 5 1 4,oO 6 .lenstr [s_ 5],oF 7 19 1,oF 8 2 7,oL 9 1 8,oO 10 .lenstr [s_ 9],oB 11 .add 6 10,oF 12 19 1,oF 13 3 12,oL 14 1 13,oO 15 .lenstr [s_ 14],oB 16 .add 11 15,oF 17 19 1,oF 18 4 17,oL 19 1 18,oO 20 .lenstr [s_ 19],oB 21 .add 16 20,oF 22 24 1,oF 23 2 22,oL 24 1 23,oO 25 .lenstr [s_ 24],oB 26 .add 21 25,oC 27 .leq 26 300,oI 2 27] .ret)
def zti:IFun:=⟨28,[.slot 2],zC1,6,0,zaW⟩
theorem zeC:zaX Tryz.prog [1048577] 0 zxx=some zti:=by kernel_rfl
def zz1:ICode:=oR [oB 8 .lss 7 6] (.seq (oE 8 0) (.seq (.block 1 (oR [oI 9 7,oX 10 8 5 7,oM 11 8 10,oO 4 (.allocL [n_ 0,n_ 0,n_ 0,.str ⟨#[]⟩,.str ⟨#[]⟩,.str ⟨#[]⟩,n_ 0,n_ 0]) [],oI 3 9,oS 8 4 11] (oR [oM 12 8 4,oI 13 3,oO 14 (.call zxA) [s_ 12,s_ 13],oO 15 (.un .not) [s_ 14]] (oT 15 (oR [oV 2 (.bool false)] .ret))))) (.region [oC 16 .add 7 1,oI 7 16])))
def zC2:ICode:=oR [oV 2 (.bool false)] (.seq (oR [oI 5 0,oO 6 .lensl [s_ 5],oV 7 (n_ 0)] (.block 0 (.loop zz1))) (oR [oV 2 (.bool true)] .ret))
def ztj:IFun:=⟨17,[.slot 2],zC2,6,0,zaW⟩
theorem zeD:zaX Tryz.prog [1048580] 0 zxy=some ztj:=by kernel_rfl
def zjt:ICode:=oR [oO 1 .boxL [s_ 0],oV 2 (.bool false)] (.seq (oR [oF 5 0 1,oL 6 1 5] (.block 0 (oR [oC 8 .eql 6 0,oI 7 8] (.cond (s_ 7) (oR [oF 9 1 1,oL 10 1 9,oC 11 .eql 10 0,oI 12 11,oG 12 (oF 13 2 1),oG 12 (oL 14 1 13),oG 12 (oO 15 (.bin .eql) [s_ 14,.val (.str ⟨#[]⟩)]),oP 16 12 15,oI 2 16] .ret) (oR [oC 18 .eql 6 1,oI 17 18] (.cond (s_ 17) (oR [oF 19 1 1,oL 20 1 19,oC 21 .eql 20 0,oI 22 21,oH 22 (oF 23 1 1),oH 22 (oL 24 1 23),oH 22 (oC 25 .eql 24 1),oQ 26 22 25,oI 27 26,oG 27 (oF 28 2 1),oG 27 (oL 29 1 28),oG 27 (oO 30 (.bin .eql) [s_ 29,.val (.str ⟨#[]⟩)]),oP 31 27 30,oI 2 31] .ret) (oR [oC 33 .eql 6 2,oI 32 33] (.cond (s_ 32) (oR [oF 34 1 1,oL 35 1 34,oC 36 .geq 35 (-1099511627776),oI 37 36,oG 37 (oF 38 1 1),oG 37 (oL 39 1 38),oG 37 (oC 40 .leq 39 1099511627776),oP 41 37 40,oI 42 41,oG 42 (oF 43 2 1),oG 42 (oL 44 1 43),oG 42 (oO 45 (.bin .eql) [s_ 44,.val (.str ⟨#[]⟩)]),oP 46 42 45,oI 2 46] .ret) (oR [oC 48 .eql 6 3,oI 47 48] (.cond (s_ 47) (oR [oF 49 1 1,oL 50 1 49,oC 51 .eql 50 0,oI 52 51,oG 52 (oF 53 2 1),oG 52 (oL 54 1 53),oG 52 (oO 55 (.call zxB) [s_ 54]),oP 56 52 55,oI 2 56] .ret) (oR [oC 58 .eql 6 4,oI 57 58] (.cond (s_ 57) (oR [oF 59 1 1,oL 60 1 59,oC 61 .eql 60 0,oI 62 61,oG 62 (oF 63 2 1),oG 62 (oL 64 1 63),oG 62 (oO 65 (.call zgj) [s_ 64]),oP 66 62 65,oI 2 66] .ret) (oR [oC 68 .eql 6 5,oI 67 68] (oT 67 (oR [oF 70 2 1,oL 71 1 70,oO 72 (.call zlV) [s_ 71],oI 69 72,oO 73 (.extract 0) [s_ 69],oO 74 (.extract 1) [s_ 69],oO 3 (.allocL [.str ⟨#[]⟩,.str ⟨#[]⟩,.str ⟨#[]⟩]) [],oS 3 3 73,oI 4 74] (oR [oF 75 1 1,oL 76 1 75,oC 77 .eql 76 0,oI 78 77,oG 78 (oI 79 4),oP 80 78 79,oI 2 80] .ret)))))))))))))))) (oR [oV 2 (.bool false)] .ret))
def zhd:IFun:=⟨81,[.slot 2],zjt,6,0,zaW⟩
theorem zeE:zaX Tryz.prog [1048577,1048579,2097201] 0 zlU=some zhd:=by kernel_rfl
def ztk:ICode:=oR [oC 32 .lss 31 16] (.seq (oE 32 2) (.seq (.block 3 (oR [oI 33 31,oI 9 33] (.region [oI 34 8,oI 35 34,oG 35 (oI 36 9),oG 35 (oF 37 2 7),oG 35 (oO 38 (.ixaddrA 16 1) [s_ 37,s_ 36]),oK 7 (oG 35 (oL 39 1 38)),oG 35 (oI 40 9),oG 35 (oO 41 (.ixaddrA 16 1) [s_ 5,s_ 40]),oK 5 (oG 35 (oL 42 1 41)),oG 35 (oB 43 .leq 39 42),oP 44 35 43,oI 8 44]))) (.region [oC 45 .add 31 1,oI 31 45])))
def ztl:ICode:=oR [oB 13 .lss 12 11] (.seq (oE 13 0) (.seq (.block 1 (oR [oX 14 27 10 12,oM 15 27 14,oO 7 (.allocL [n_ 0,n_ 0,n_ 0,n_ 0,n_ 0,n_ 0,n_ 0,n_ 0,n_ 0,n_ 0,n_ 0,n_ 0,n_ 0,n_ 0,n_ 0,n_ 0,n_ 0,n_ 0,n_ 0,n_ 0,.str ⟨#[]⟩,.str ⟨#[]⟩,.str ⟨#[]⟩,.str ⟨#[]⟩,n_ 0,n_ 0,.str ⟨#[]⟩]) [],oS 27 7 15] (.seq (oR [oK 7 (oM 16 27 7),oO 17 (.call zxC) [s_ 16],oO 18 (.un .not) [s_ 17],oI 19 18,oH 19 (oF 20 0 7),oH 19 (oF 21 0 20),oK 7 (oH 19 (oL 22 1 21)),oH 19 (oO 23 (.ixaddrA 16 1) [s_ 5,s_ 22]),oK 5 (oH 19 (oL 24 1 23)),oH 19 (oF 25 0 7),oH 19 (oF 26 1 25),oK 7 (oH 19 (oL 27 1 26)),oH 19 (oC 28 .sub 27 1),oH 19 (oB 29 .neq 24 28),oQ 30 19 29] (oT 30 (.exit 1))) (oR [oV 8 (.bool true)] (.seq (oR [oV 31 (n_ 0)] (.block 2 (.loop ztk))) (oR [oI 46 8] (oT 46 (oR [oI 47 4,oM 48 27 7,oO 49 (.buildSl 27 1 (.agg [n_ 0,n_ 0,n_ 0,n_ 0,n_ 0,n_ 0,n_ 0,n_ 0,n_ 0,n_ 0,n_ 0,n_ 0,n_ 0,n_ 0,n_ 0,n_ 0,n_ 0,n_ 0,n_ 0,n_ 0,.str ⟨#[]⟩,.str ⟨#[]⟩,.str ⟨#[]⟩,.str ⟨#[]⟩,n_ 0,n_ 0,.str ⟨#[]⟩]) [0]) [s_ 48],oO 50 (.append 36 27 256) [s_ 47,s_ 49],oI 4 50] (.region [oF 51 0 7,oF 52 0 51,oL 53 1 52,oF 54 0 7,oF 55 1 54,oL 56 1 55,oO 57 (.ixaddrA 16 1) [s_ 5,s_ 53],oS 1 57 56]))))))))) (.region [oC 58 .add 12 1,oI 12 58])))
def zC3:ICode:=oR [oV 2 .nilsl,oO 3 (.allocL [n_ 0,n_ 0,n_ 0,n_ 0,n_ 0,n_ 0,n_ 0,n_ 0,n_ 0,n_ 0,n_ 0,n_ 0,n_ 0,n_ 0,n_ 0,n_ 0]) []] (oR [oV 4 .nilsl] (oR [oO 5 (.allocL [n_ 0,n_ 0,n_ 0,n_ 0,n_ 0,n_ 0,n_ 0,n_ 0,n_ 0,n_ 0,n_ 0,n_ 0,n_ 0,n_ 0,n_ 0,n_ 0]) []] (.seq (oR [oI 10 0,oO 11 .lensl [s_ 10],oV 12 (n_ 0)] (.block 0 (.loop ztl))) (oR [oI 59 4,oK 5 (oM 60 16 5),oI 2 59,oK 3 (oS 16 3 60)] .ret))))
def ztm:IFun:=⟨61,[.slot 2,.cell 3 16 true],zC3,6,0,zaW⟩
theorem zeo:zaX Tryz.prog [1048579,1048581,1048583] 0 zsX=some ztm:=by kernel_rfl
def zC4:ICode:=oR [oV 0 .nilptr] (oR [oO 1 (.mkmap true [(.int .i64),.str,.str,.str,.str]) [],oO 2 (.build [.nilmap] [(0,1)]) [s_ 1],oO 3 (.boxH 92) [s_ 2],oI 0 3] .ret)
def ztn:IFun:=⟨4,[.slot 0],zC4,6,0,zaW⟩
theorem znS:zaX Tryz.prog [3] 0 zsY=some ztn:=by kernel_rfl
def zC5:ICode:=oR [oO 3 (.boxH 36) [s_ 1],oV 4 (n_ 0)] (.seq (oR [oI 9 0,oO 10 (.eq1 false .ptr) [s_ 9,.val .nilptr],oI 11 10,oH 11 (oM 12 27 3),oH 11 (oO 13 (.call zxD) [s_ 12]),oH 11 (oC 14 .neq 13 0),oQ 15 11 14] (oT 15 (oR [oV 4 (n_ 1)] .ret))) (oR [oI 16 0,oO 17 .nilchk [s_ 16],oF 18 0 17,⟨some 19,none,.load 1 false,[s_ 18],(some (.heap))⟩,oF 20 19 3,⟨some 21,none,.load 5 true,[s_ 20],(some (.heap))⟩,oO 22 (.mlook true [(.int .i64),.str,.str,.str,.str] .nilsl false) [s_ 19,s_ 21],oO 5 .freeze [s_ 22]] (.seq (oR [oF 23 18 3,oL 24 1 23,oC 25 .neq 24 1] (oT 25 (.region [oI 26 5,oO 27 (.call zjr) [s_ 26],oO 28 (.mkfunc zxE 0) [s_ 3],oO 29 (.call znL) [s_ 27,s_ 28],oO 5 .freeze [s_ 29]]))) (.seq (oR [oF 30 18 3,oL 31 1 30,oC 32 .eql 31 1,oI 33 32,oH 33 (oF 34 18 3),oH 33 (oL 35 1 34),oH 33 (oC 36 .eql 35 3),oQ 37 33 36] (oT 37 (oR [oF 38 0 3,oM 39 2 38,oF 40 24 3,oM 41 3 40,oO 42 (.build [n_ 0,n_ 0,n_ 0,n_ 0,.str ⟨#[]⟩] [(0,2),(2,3)]) [s_ 39,s_ 41],oO 6 (.allocL [n_ 0,n_ 0,n_ 0,n_ 0,.str ⟨#[]⟩]) [],oS 5 6 42] (oR [oI 44 5,oM 45 5 6,oO 46 (.call znM) [s_ 44,s_ 45,.val (.func 57 [] [])],oI 43 46,oO 47 (.extract 0) [s_ 43],oO 48 (.extract 1) [s_ 43],oI 7 47,oI 8 48] (.region [oI 49 5,oO 50 (.call zjr) [s_ 49],oI 51 7,oK 6 (oM 52 5 6),oO 53 (.buildSl 5 1 (.agg [n_ 0,n_ 0,n_ 0,n_ 0,.str ⟨#[]⟩]) [0]) [s_ 52],oO 54 (.call zxF) [s_ 50,s_ 51,s_ 53],oO 5 .freeze [s_ 54]]))))) (oR [oI 55 0,oF 56 19 3,oM 57 5 56,oI 58 5,oO 59 (.call zlW) [s_ 55,s_ 57,s_ 58]] (oR [oV 4 (n_ 0)] .ret))))))
def zto:IFun:=⟨60,[.slot 4],zC5,6,0,zaW⟩
theorem zhR:zaX Tryz.prog [3,1048582,8388613] 0 znJ=some zto:=by kernel_rfl
def ztp:ICode:=oR [oB 20 .lss 19 18] (.seq (oE 20 0) (.seq (.block 1 (oR [oX 21 6 17 19,oM 22 6 21,oO 5 (.allocL [n_ 0,.str ⟨#[]⟩,.str ⟨#[]⟩,.str ⟨#[]⟩,.str ⟨#[]⟩,.nilsl]) [],oS 6 5 22] (.region [oI 23 3,oI 24 0,oF 25 0 5,oM 26 5 25,oO 27 (.call zfu) [s_ 23,s_ 24,s_ 26]]))) (.region [oC 28 .add 19 1,oI 19 28])))
def ztq:ICode:=oR [oB 40 .lss 39 38] (.seq (oE 40 2) (.seq (.block 3 (oR [oX 41 3 37 39,oM 42 3 41,oO 7 (.allocL [.str ⟨#[]⟩,.str ⟨#[]⟩,.str ⟨#[]⟩]) [],oS 3 7 42] (oR [oI 43 3,oO 44 .nilchk [s_ 43],oF 45 3 44,⟨some 46,none,.load 1 false,[s_ 45],(some (.heap))⟩,oF 47 0 7,oK 7 (oL 48 1 47),oI 49 3,oO 50 .nilchk [s_ 49],oF 51 3 50,⟨some 52,none,.load 1 false,[s_ 51],(some (.heap))⟩,oF 53 0 7,oK 7 (oL 54 1 53),oO 55 (.mlook false [.str] .nilsl false) [s_ 52,s_ 54],oK 7 (oM 56 3 7),oO 57 (.buildSl 3 1 (.agg [.str ⟨#[]⟩,.str ⟨#[]⟩,.str ⟨#[]⟩]) [0]) [s_ 56],oO 58 (.appendT 73 3 48) [s_ 55,s_ 57],⟨none,none,.mset false [.str],[s_ 46,s_ 48,s_ 58],none⟩] (.region [oI 59 3,oO 60 .nilchk [s_ 59],oF 61 4 60,⟨some 62,none,.load 1 false,[s_ 61],(some (.heap))⟩,oF 63 1 7,oK 7 (oL 64 1 63),oI 65 3,oO 66 .nilchk [s_ 65],oF 67 4 66,⟨some 68,none,.load 1 false,[s_ 67],(some (.heap))⟩,oF 69 1 7,oK 7 (oL 70 1 69),oO 71 (.mlook false [.str] .nilsl false) [s_ 68,s_ 70],oK 7 (oM 72 3 7),oO 73 (.buildSl 3 1 (.agg [.str ⟨#[]⟩,.str ⟨#[]⟩,.str ⟨#[]⟩]) [0]) [s_ 72],oO 74 (.appendT 73 3 48) [s_ 71,s_ 73],⟨none,none,.mset false [.str],[s_ 62,s_ 64,s_ 74],none⟩])))) (.region [oC 75 .add 39 1,oI 39 75])))
def zC6:ICode:=oR [oV 2 .nilptr] (oR [oO 8 (.mkmap false [.str]) [],oO 9 (.mkmap false [.str]) [],oO 10 (.mkmap false [.str]) [],oO 11 (.mkmap true [(.int .i64),.str,.str,.str,.str]) [],oO 12 (.mkmap true [(.int .i64),.str,.str,.str,.str]) [],oO 13 (.mkmap true [(.int .i64),.str,.str,.str,.str]) [],oO 14 (.build [.nilsl,.nilsl,.nilmap,.nilmap,.nilmap,.nilmap,.nilmap,.nilmap] [(2,1),(3,1),(4,1),(5,1),(6,1),(7,1)]) [s_ 8,s_ 9,s_ 10,s_ 11,s_ 12,s_ 13],oO 15 (.boxH 111) [s_ 14],oI 3 15] (.seq (oR [oI 16 0,oO 17 (.call zCX) [s_ 16],oO 18 .lensl [s_ 17],oV 19 (n_ 0)] (.block 0 (.loop ztp))) (oR [oI 29 3,oO 30 .nilchk [s_ 29],oF 31 1 30,oL 32 1 31,oO 33 (.call zxG) [s_ 32,.val (.func 63 [] [])]] (.seq (oR [oI 34 3,oO 35 .nilchk [s_ 34],oF 36 1 35,oO 37 .loadF [s_ 36],oO 38 .lensl [s_ 37],oV 39 (n_ 0)] (.block 2 (.loop ztq))) (oR [oI 76 3,oI 2 76] .ret)))))
def ztr:IFun:=⟨77,[.slot 2],zC6,6,0,zaW⟩
theorem zqQ:zaX Tryz.prog [15,1048581,1048583,33554432,8388645] 0 zsZ=some ztr:=by kernel_rfl
def zAI:ICode:=oR [oB 44 .lss 43 42] (.seq (oE 44 0) (.seq (.block 1 (oR [oX 45 8 41 43,oM 46 8 45,oO 13 (.allocL [n_ 0,n_ 0,n_ 0,.str ⟨#[]⟩,.str ⟨#[]⟩,.str ⟨#[]⟩,n_ 0,n_ 0]) [],oS 8 13 46] (.region [oI 47 11,oI 48 11,oO 49 .nilchk [s_ 48],oF 50 3 49,⟨some 51,none,.load 1 false,[s_ 50],(some (.heap))⟩,oI 52 11,oK 13 (oM 53 8 13),oO 54 (.callP zxJ) [s_ 52,s_ 53],oO 55 (.buildSl 3 1 (.agg [n_ 0,n_ 0,.str ⟨#[]⟩]) [0]) [s_ 54],oO 56 (.append 34 3 32) [s_ 51,s_ 55],oO 57 .nilchk [s_ 47],oF 58 3 57,⟨none,none,.store 1,[s_ 58,s_ 56],(some (.heap))⟩]))) (.region [oC 59 .add 43 1,oI 43 59])))
def zHY:ICode:=oR [oO 8 (.allocL [n_ 0,n_ 0,.str ⟨#[]⟩]) [],oV 9 (n_ 0)] (oR [oV 10 (.func 64 [] [])] (.seq (oR [oI 14 1,oC 15 .lss 14 0,oI 16 15,oH 16 (oI 17 1),oH 16 (oI 18 0),oH 16 (oO 19 .lensl [s_ 18]),oH 16 (oB 20 .geq 17 19),oQ 21 16 20,oI 22 21,oH 22 (oI 23 0),oH 22 (oO 24 (.call zxH) [s_ 23]),oH 22 (oC 25 .neq 24 0),oQ 26 22 25,oI 27 26,oH 27 (oI 28 2),oH 27 (oI 29 10),oH 27 (oO 30 (.call zxI) [s_ 28,s_ 29]),oQ 31 27 30] (oT 31 (oR [oO 32 (.build [n_ 0,n_ 0,.str ⟨#[]⟩] []) [],oS 3 8 32,oV 9 (n_ 1)] .ret))) (oR [oI 33 0,oI 34 2,oI 35 3,oO 36 (.build [.nilsl,.nilsl,.nilptr,.nilsl] [(0,1),(1,1),(2,1)]) [s_ 33,s_ 34,s_ 35],oO 37 (.boxH 124) [s_ 36],oI 11 37] (.seq (oR [oI 38 0,oI 39 1,oC 40 .add 39 1,oO 41 (.slsl 8 false true false) [s_ 38,s_ 40],oO 42 .lensl [s_ 41],oV 43 (n_ 0)] (.block 0 (.loop zAI))) (oR [oI 60 11,oO 61 .nilchk [s_ 60],oF 62 3 61,oL 63 1 62,oI 64 1,oX 65 3 63 64,oM 66 3 65,oS 3 8 66,oV 9 (n_ 0)] .ret)))))
def zC7:IFun:=⟨67,[.cell 8 3 true,.slot 9],zHY,6,1,zaW⟩
theorem znT:zaX Tryz.prog [37,1048584,1048589,2097220] 1 zw3=some zC7:=by kernel_rfl
def zC8:ICode:=oR [oV 8 (.bool false)] (oR [oI 12 0,oI 13 1,oI 14 2,oI 15 3,oO 16 (.call zw3) [s_ 12,s_ 13,s_ 14,s_ 15],oI 11 16,oO 17 (.extract 0) [s_ 11],oO 18 (.extract 1) [s_ 11],oO 9 (.allocL [n_ 0,n_ 0,.str ⟨#[]⟩]) [],oS 3 9 17,oI 10 18] (oR [oI 19 10,oC 20 .eql 19 0,oI 21 20,oK 9 (oG 21 (oM 22 3 9)),oG 21 (oO 23 (.call zgk) [.val (.bool true)]),oG 21 (oO 24 (.eqv false [(.int .i64),(.int .i64),.str]) [s_ 22,s_ 23]),oP 25 21 24,oI 8 25] .ret))
def zts:IFun:=⟨26,[.slot 8],zC8,6,1,zaW⟩
theorem znU:zaX Tryz.prog [1048585,2097169] 1 znK=some zts:=by kernel_rfl
def zz2:ICode:=oR [oB 12 .lss 11 10] (.seq (oE 12 0) (.seq (.block 1 (oR [oI 13 11,oX 14 8 9 11,oM 15 8 14,oO 7 (.allocL [n_ 0,n_ 0,n_ 0,.str ⟨#[]⟩,.str ⟨#[]⟩,.str ⟨#[]⟩,n_ 0,n_ 0]) [],oI 6 13,oS 8 7 15] (oR [oV 8 (n_ 1)] (.seq (oR [oF 16 0 7,oL 17 1 16,oC 18 .geq 17 5] (oT 18 (.region [oI 19 8,oI 20 5,oF 21 6 7,oL 22 1 21,oX 23 1 20 22,oL 24 1 23,oB 25 .add 19 24,oI 8 25]))) (.seq (oR [oF 26 0 7,oL 27 1 26,oC 28 .geq 27 8] (oT 28 (.region [oI 29 8,oI 30 5,oF 31 7 7,oL 32 1 31,oX 33 1 30 32,oL 34 1 33,oB 35 .add 29 34,oI 8 35]))) (oR [oI 36 5,oI 37 8,oO 38 (.minmax false) [s_ 37,.val (n_ 5000)],oO 39 (.buildSl 1 1 (n_ 0) [0]) [s_ 38],oO 40 (.append 3 1 8) [s_ 36,s_ 39],oI 5 40] (oR [oI 41 6,oI 42 1,oB 43 .eql 41 42] (oT 43 (oR [oI 44 5,oI 45 6,oX 46 1 44 45,oL 47 1 46,oI 4 47] .ret))))))))) (.region [oC 48 .add 11 1,oI 11 48])))
def zC9:ICode:=oR [oV 4 (n_ 0)] (oR [oV 5 .nilsl] (.seq (oR [oI 9 0,oO 10 .lensl [s_ 9],oV 11 (n_ 0)] (.block 0 (.loop zz2))) (oR [oV 4 (n_ 0)] .ret)))
def ztt:IFun:=⟨49,[.slot 4],zC9,6,1,zaW⟩
theorem zfv:zaX Tryz.prog [1048583] 1 zs0=some ztt:=by kernel_rfl
def zx9:ICode:=oR [oO 6 .boxL [s_ 2],oO 8 (.allocL [n_ 0,n_ 0,.str ⟨#[]⟩]) []] (oR [oI 15 0,oI 16 1,oX 17 8 15 16,oM 18 8 17,oO 9 (.allocL [n_ 0,n_ 0,n_ 0,.str ⟨#[]⟩,.str ⟨#[]⟩,.str ⟨#[]⟩,n_ 0,n_ 0]) [],oS 8 9 18] (oR [oO 19 (.build [n_ 0,n_ 0,.str ⟨#[]⟩] []) [],oO 10 (.allocL [n_ 0,n_ 0,.str ⟨#[]⟩]) [],oS 3 10 19] (.seq (oR [oF 20 0 9,oL 21 1 20] (.block 0 (oR [oC 23 .eql 21 1,oI 22 23] (.cond (s_ 22) (oR [oF 24 1 9,oM 25 3 24,oS 3 8 25] .ret) (oR [oC 27 .eql 21 2,oI 26 27] (.cond (s_ 26) (oR [oM 28 2 6,oF 29 4 9,oL 30 1 29,oO 31 (.call zqF) [s_ 28,s_ 30],oS 3 8 31] .ret) (oR [oC 33 .eql 21 3,oI 32 33] (.cond (s_ 32) (oR [oI 34 3,oK 6 (oM 35 2 6),oF 36 4 9,oK 9 (oL 37 1 36),oO 38 (.call zqF) [s_ 35,s_ 37],oF 39 5 9,oK 9 (oL 40 1 39),oO 41 (.callP zqG) [s_ 34,s_ 38,s_ 40],oI 11 41] (.seq (oR [oI 42 11,oO 43 .lensl [s_ 42],oC 44 .eql 43 0] (oT 44 (oR [oM 45 3 10,oS 3 8 45] .ret))) (oR [oI 46 11,oI 47 11,oO 48 .lensl [s_ 47],oC 49 .sub 48 1,oX 50 3 46 49,oM 51 3 50,oS 3 8 51] .ret))) (oR [oC 53 .eql 21 4,oI 52 53] (oT 52 (oR [oI 54 3,oK 6 (oM 55 2 6),oF 56 4 9,oK 9 (oL 57 1 56),oO 58 (.call zqF) [s_ 55,s_ 57],oF 59 5 9,oK 9 (oL 60 1 59),oO 61 (.callP zqG) [s_ 54,s_ 58,s_ 60],oO 62 .lensl [s_ 61],oO 63 (.build [n_ 0,n_ 0,.str ⟨#[]⟩] [(0,1),(1,1)]) [.val (n_ 2),s_ 62],oK 8 (oS 3 8 63)] .ret))))))))))) (oR [oI 64 0,oF 65 6 9,oL 66 1 65,oM 67 2 6,oI 68 3,oO 69 (.call zhQ) [s_ 64,s_ 66,s_ 67,s_ 68],oO 12 (.allocL [n_ 0,n_ 0,.str ⟨#[]⟩]) [],oS 3 12 69] (.seq (oR [oF 70 0 9,oL 71 1 70] (.block 1 (oR [oC 73 .eql 71 5,oI 72 73] (.cond (s_ 72) (.seq (oR [oF 74 0 12,oL 75 1 74,oC 76 .neq 75 1] (oT 76 (oR [oM 77 3 10,oS 3 8 77] .ret))) (oR [oF 78 1 12,oL 79 1 78,oC 80 .eql 79 0,oO 81 (.call zjs) [s_ 80],oS 3 8 81] .ret)) (oR [oC 83 .eql 71 6,oI 82 83] (.cond (s_ 82) (oR [oM 84 3 12,oM 85 3 10,oO 86 (.eqv false [(.int .i64),(.int .i64),.str]) [s_ 84,s_ 85],oO 87 (.call zjs) [s_ 86],oS 3 8 87] .ret) (oR [oC 89 .eql 71 7,oI 88 89] (oT 88 (oR [oM 90 3 12,oM 91 3 10,oO 92 (.eqv true [(.int .i64),(.int .i64),.str]) [s_ 90,s_ 91],oO 93 (.call zjs) [s_ 92],oS 3 8 93] .ret))))))))) (oR [oI 94 0,oF 95 7 9,oL 96 1 95,oM 97 2 6,oI 98 3,oO 99 (.call zhQ) [s_ 94,s_ 96,s_ 97,s_ 98],oO 13 (.allocL [n_ 0,n_ 0,.str ⟨#[]⟩]) [],oS 3 13 99] (.seq (oR [oF 100 0 9,oL 101 1 100] (.block 2 (oR [oC 103 .eql 101 8,oI 102 103] (.cond (s_ 102) (oR [oM 104 3 12,oM 105 3 13,oO 106 (.call zs4) [s_ 104,s_ 105,.val (.bool true)],oS 3 8 106] .ret) (oR [oC 108 .eql 101 9,oI 107 108] (.cond (s_ 107) (oR [oM 109 3 12,oM 110 3 13,oO 111 (.call zs4) [s_ 109,s_ 110,.val (.bool false)],oS 3 8 111] .ret) (.seq (oR [oC 113 .eql 101 10,oI 112 113] (.cond (s_ 112) .skip (.region [oC 114 .eql 101 11,oI 112 114]))) (.cond (s_ 112) (.seq (oR [oM 115 3 12,oM 116 3 10,oO 117 (.eqv false [(.int .i64),(.int .i64),.str]) [s_ 115,s_ 116],oI 118 117,oH 118 (oM 119 3 13),oH 118 (oM 120 3 10),oH 118 (oO 121 (.eqv false [(.int .i64),(.int .i64),.str]) [s_ 119,s_ 120]),oQ 122 118 121] (oT 122 (oR [oM 123 3 10,oS 3 8 123] .ret))) (oR [oK 12 (oM 124 3 12),oK 13 (oM 125 3 13),oO 126 (.eqv false [(.int .i64),(.int .i64),.str]) [s_ 124,s_ 125],oF 127 0 9,oK 9 (oL 128 1 127),oC 129 .eql 128 10,oO 130 (.eq1 false .bool) [s_ 126,s_ 129],oO 131 (.call zjs) [s_ 130],oK 8 (oS 3 8 131)] .ret)) (.seq (oR [oC 133 .eql 101 12,oI 132 133] (.cond (s_ 132) .skip (oR [oC 134 .eql 101 13,oI 132 134] (.cond (s_ 132) .skip (oR [oC 135 .eql 101 14,oI 132 135] (.cond (s_ 132) .skip (.region [oC 136 .eql 101 15,oI 132 136]))))))) (oT 132 (oR [oF 137 0 9,oL 138 1 137,oM 139 3 12,oM 140 3 13,oO 141 (.call zxK) [s_ 138,s_ 139,s_ 140],oS 3 8 141] .ret))))))))))) (.seq (oR [oF 142 0 12,oL 143 1 142,oC 144 .neq 143 2,oI 145 144,oH 145 (oF 146 0 13),oH 145 (oL 147 1 146),oH 145 (oC 148 .neq 147 2),oQ 149 145 148] (oT 149 (oR [oM 150 3 10,oS 3 8 150] .ret))) (oR [oV 14 (n_ 0)] (.seq (oR [oF 151 0 9,oL 152 1 151] (.block 3 (oR [oC 154 .eql 152 16,oI 153 154] (.cond (s_ 153) (.region [oF 155 1 12,oL 156 1 155,oF 157 1 13,oL 158 1 157,oB 159 .add 156 158,oO 160 (.call zqH) [s_ 159],oI 14 160]) (oR [oC 162 .eql 152 17,oI 161 162] (.cond (s_ 161) (.region [oF 163 1 12,oL 164 1 163,oF 165 1 13,oL 166 1 165,oB 167 .sub 164 166,oO 168 (.call zqH) [s_ 167],oI 14 168]) (oR [oC 170 .eql 152 18,oI 169 170] (oT 169 (.region [oF 171 1 12,oL 172 1 171,oF 173 1 13,oL 174 1 173,oO 175 (.call zxL) [s_ 172,s_ 174],oI 14 175]))))))))) (oR [oI 176 14,oO 177 (.build [n_ 0,n_ 0,.str ⟨#[]⟩] [(0,1),(1,1)]) [.val (n_ 2),s_ 176],oS 3 8 177] .ret)))))))))))
def zkI:IFun:=⟨178,[.cell 8 3 true],zx9,6,1,zaW⟩
theorem zfw:zaX Tryz.prog [1048582,1048584,1048585,1048586,1048588,1048589,2097223,2097172] 1 zhQ=some zkI:=by kernel_rfl
def zz3:ICode:=oR [oB 9 .lss 8 7] (.seq (oE 9 0) (.seq (.block 1 (oR [oX 10 4 6 8,oM 11 4 10,oO 5 (.allocL [.str ⟨#[]⟩,n_ 0,n_ 0,.str ⟨#[]⟩]) [],oS 4 5 11] (.region [oF 12 0 3,oK 3 (oL 13 1 12),oF 14 0 5,oK 5 (oL 15 1 14),oO 16 (.buildSl 1 1 (.str ⟨#[]⟩) [0]) [s_ 15],oO 17 (.append 9 1 16) [s_ 13,s_ 16],oF 18 1 3,oK 3 (oL 19 1 18),oF 20 1 5,oK 5 (oM 21 3 20),oO 22 (.buildSl 3 1 (.agg [n_ 0,n_ 0,.str ⟨#[]⟩]) [0]) [s_ 21],oO 23 (.append 34 3 32) [s_ 19,s_ 22],oF 24 0 3,oK 3 (oS 1 24 17),oF 25 1 3,oK 3 (oS 1 25 23)]))) (.region [oC 26 .add 8 1,oI 8 26])))
def zDa:ICode:=oR [oO 2 (.allocL [.nilsl,.nilsl]) []] (oR [oO 3 (.allocL [.nilsl,.nilsl]) []] (.seq (oR [oI 6 0,oO 7 .lensl [s_ 6],oV 8 (n_ 0)] (.block 0 (.loop zz3))) (oR [oM 27 2 3,oS 2 2 27] .ret)))
def ztu:IFun:=⟨28,[.cell 2 2 true],zDa,6,1,zaW⟩
theorem zfR:zaX Tryz.prog [1048578,1048579,1048581] 1 zs1=some ztu:=by kernel_rfl
def zDb:ICode:=oR [oO 3 .boxL [s_ 1],oV 4 .nilsl] (.seq (oR [oI 5 0,oO 6 (.eq1 false .ptr) [s_ 5,.val .nilptr]] (oT 6 (oR [oV 4 .nilsl] .ret))) (oR [oI 7 0,oO 8 .nilchk [s_ 7],oF 9 5 8,⟨some 10,none,.load 1 false,[s_ 9],(some (.heap))⟩,oK 3 (oM 11 5 3),oO 12 (.mlook true [(.int .i64),.str,.str,.str,.str] .nilsl false) [s_ 10,s_ 11],oO 13 (.call zxO) [s_ 12],oI 4 13] .ret))
def ztv:IFun:=⟨14,[.slot 4],zDb,6,1,zaW⟩
theorem zfS:zaX Tryz.prog [1048579] 1 zs2=some ztv:=by kernel_rfl
def zjY:ICode:=.seq (oR [oI 26 8,oI 27 5,oO 28 .lensl [s_ 27],oB 29 .lss 26 28,oI 30 29,oG 30 (oI 31 5),oG 30 (oI 32 8),oG 30 (oX 33 3 31 32),⟨some 34,(some (30,true)),.load 3 true,[s_ 33],(some (.el))⟩,oG 30 (oF 35 24 7),oK 7 (oG 30 (oM 36 3 35)),oG 30 (oO 37 (.call zqJ) [s_ 34,s_ 36]),oG 30 (oC 38 .lss 37 0),oP 39 30 38] (oE 39 2)) (.block 3 (.region [oI 40 8,oC 41 .add 40 1,oI 8 41]))
def ztw:ICode:=oR [oB 23 .lss 22 21] (.seq (oE 23 0) (.seq (.block 1 (oR [oX 24 27 20 22,oM 25 27 24,oO 7 (.allocL [n_ 0,n_ 0,n_ 0,n_ 0,n_ 0,n_ 0,n_ 0,n_ 0,n_ 0,n_ 0,n_ 0,n_ 0,n_ 0,n_ 0,n_ 0,n_ 0,n_ 0,n_ 0,n_ 0,n_ 0,.str ⟨#[]⟩,.str ⟨#[]⟩,.str ⟨#[]⟩,.str ⟨#[]⟩,n_ 0,n_ 0,.str ⟨#[]⟩]) [],oS 27 7 25] (oR [oV 8 (n_ 0)] (.seq (.block 2 (.loop zjY)) (oR [oI 42 8,oI 43 5,oO 44 .lensl [s_ 43],oB 45 .eql 42 44,oI 46 45,oH 46 (oI 47 5),oH 46 (oI 48 8),oH 46 (oX 49 3 47 48),⟨some 50,(some (46,false)),.load 3 true,[s_ 49],(some (.el))⟩,oH 46 (oF 51 24 7),oK 7 (oH 46 (oM 52 3 51)),oH 46 (oO 53 (.eqv true [(.int .i64),(.int .i64),.str]) [s_ 50,s_ 52]),oQ 54 46 53] (oT 54 (.region [oO 55 (.buildSl 3 0 (.agg [n_ 0,n_ 0,.str ⟨#[]⟩]) []) [],oI 56 5,oI 57 8,oO 58 (.slsl 3 false true false) [s_ 56,s_ 57],oO 59 (.append 34 3 32) [s_ 55,s_ 58],oF 60 24 7,oK 7 (oM 61 3 60),oO 62 (.buildSl 3 1 (.agg [n_ 0,n_ 0,.str ⟨#[]⟩]) [0]) [s_ 61],oO 63 (.append 34 3 32) [s_ 59,s_ 62],oI 64 5,oI 65 8,oO 66 (.slsl 3 true false false) [s_ 64,s_ 65],oO 67 (.append 34 3 32) [s_ 63,s_ 66],oI 5 67]))))))) (.region [oC 68 .add 22 1,oI 22 68])))
def zDc:ICode:=oR [oO 3 .boxL [s_ 1],oV 4 .nilsl] (oR [oV 5 .nilsl] (.seq (oR [oF 9 0 3,oL 10 1 9,oC 11 .lss 10 4,oI 12 11,oH 12 (oI 13 0),oH 12 (oM 14 5 3),oH 12 (oO 15 (.call zxP) [s_ 13,s_ 14]),oH 12 (oO 16 (.un .not) [s_ 15]),oQ 17 12 16] (oT 17 (oR [oV 4 .nilsl] .ret))) (.seq (oR [oI 18 0,oM 19 5 3,oO 20 (.call zqI) [s_ 18,s_ 19],oO 21 .lensl [s_ 20],oV 22 (n_ 0)] (.block 0 (.loop ztw))) (oR [oI 69 5,oI 4 69] .ret))))
def ztx:IFun:=⟨70,[.slot 4],zDc,6,1,zaW⟩
theorem zep:zaX Tryz.prog [1048579,1048583,2097240] 1 zqD=some ztx:=by kernel_rfl
def zDd:ICode:=oR [oV 4 (.bool false)] (oR [oI 5 0,oI 6 1,oO 7 (.build [n_ 0,.str ⟨#[]⟩,.str ⟨#[]⟩,.str ⟨#[]⟩,.str ⟨#[]⟩] [(0,1),(1,1)]) [.val (n_ 1),s_ 6],oO 8 (.call zs6) [s_ 5,s_ 7],oI 4 8] .ret)
def zty:IFun:=⟨9,[.slot 4],zDd,6,1,zaW⟩
theorem zfx:zaX Tryz.prog [2097243] 1 zqE=some zty:=by kernel_rfl
def zya:ICode:=oR [oO 3 .boxL [s_ 1],oV 4 (.bool false)] (oR [oI 5 0,oM 6 3 3,oO 7 (.call zxN) [s_ 6],oO 8 (.call zs6) [s_ 5,s_ 7],oI 9 8,oG 9 (oI 10 0),oG 9 (oF 11 0 3),oG 9 (oL 12 1 11),oG 9 (oO 13 (.call zqE) [s_ 10,s_ 12]),oP 14 9 13,oI 15 14,oG 15 (oI 16 0),oG 15 (oF 17 1 3),oG 15 (oL 18 1 17),oG 15 (oO 19 (.call zqE) [s_ 16,s_ 18]),oP 20 15 19,oI 4 20] .ret)
def znV:IFun:=⟨21,[.slot 4],zya,6,1,zaW⟩
theorem zdX:zaX Tryz.prog [1048579,2097234,2097243,2097190] 1 zxz=some znV:=by kernel_rfl
def zIp:ICode:=oR [oV 4 (.bool false)] (oR [oI 5 0,oI 6 1,oO 7 (.call zCl) [s_ 5,s_ 6],oC 8 .geq 7 0,oI 4 8] .ret)
def zHZ:IFun:=⟨9,[.slot 4],zIp,6,0,zaW⟩
theorem zju:zaX Tryz.prog [] 0 zGk=some zHZ:=by kernel_rfl
def zGn:ICode:=oR [oO 4 (.allocL [n_ 0,n_ 0,.str ⟨#[]⟩]) []] (.seq (oR [oI 6 0,oI 7 1,oO 8 (.call zCl) [s_ 6,s_ 7],oI 5 8] (oR [oI 9 5,oC 10 .geq 9 0] (oT 10 (oR [oI 11 0,oI 12 5,oX 13 4 11 12,oF 14 1 13,oM 15 3 14,oS 3 4 15] .ret)))) (oR [oO 16 (.build [n_ 0,n_ 0,.str ⟨#[]⟩] []) [],oS 3 4 16] .ret))
def zCm:IFun:=⟨17,[.cell 4 3 true],zGn,6,0,zaW⟩
theorem zjv:zaX Tryz.prog [1048580] 0 zAG=some zCm:=by kernel_rfl
def ztz:ICode:=oR [oO 2 .boxL [s_ 0],oV 4 (.bool false)] (oR [oF 8 1 2,oM 9 3 8,oO 10 (.build [n_ 0,n_ 0,.str ⟨#[]⟩] []) [],oO 11 (.eqv false [(.int .i64),(.int .i64),.str]) [s_ 9,s_ 10],oI 5 11] (oR [oF 12 6 2,oK 2 (oL 13 1 12),oC 14 .geq 13 0,oI 15 14,oG 15 (oF 16 6 2),oK 2 (oG 15 (oL 17 1 16)),oG 15 (oI 18 1),oG 15 (oB 19 .lss 17 18),oP 20 15 19,oF 21 7 2,oK 2 (oL 22 1 21),oC 23 .geq 22 0,oI 24 23,oG 24 (oF 25 7 2),oK 2 (oG 24 (oL 26 1 25)),oG 24 (oI 27 1),oG 24 (oB 28 .lss 26 27),oP 29 24 28,oI 6 20,oI 7 29] (.seq (oR [oF 30 0 2,oL 31 1 30] (.block 0 (oR [oC 33 .eql 31 1,oI 32 33] (.cond (s_ 32) (oR [oF 34 1 2,oM 35 3 34,oO 36 (.call zlU) [s_ 35],oI 37 36,oG 37 (oF 38 1 2),oG 37 (oF 39 0 38),oG 37 (oL 40 1 39),oG 37 (oC 41 .neq 40 5),oP 42 37 41,oI 43 42,oG 43 (oF 44 1 2),oG 43 (oF 45 0 44),oG 43 (oL 46 1 45),oG 43 (oC 47 .neq 46 4),oG 43 (oI 48 47),oH 48 (oF 49 1 2),oH 48 (oF 50 2 49),oH 48 (oL 51 1 50),oH 48 (oO 52 (.call znO) [s_ 51]),oG 43 (oQ 53 48 52),oP 54 43 53,oI 55 54,oG 55 (oF 56 4 2),oG 55 (oL 57 1 56),oG 55 (oO 58 (.bin .eql) [s_ 57,.val (.str ⟨#[]⟩)]),oP 59 55 58,oI 60 59,oG 60 (oF 61 5 2),oG 60 (oL 62 1 61),oG 60 (oO 63 (.bin .eql) [s_ 62,.val (.str ⟨#[]⟩)]),oP 64 60 63,oI 65 64,oG 65 (oF 66 6 2),oG 65 (oL 67 1 66),oG 65 (oC 68 .eql 67 0),oP 69 65 68,oI 70 69,oG 70 (oF 71 7 2),oG 70 (oL 72 1 71),oG 70 (oC 73 .eql 72 0),oP 74 70 73,oI 4 74] .ret) (oR [oC 76 .eql 31 2,oI 75 76] (.cond (s_ 75) (oR [oI 77 5,oI 78 77,oG 78 (oF 79 4 2),oG 78 (oL 80 1 79),oG 78 (oO 81 (.call znO) [s_ 80]),oP 82 78 81,oI 83 82,oG 83 (oF 84 5 2),oG 83 (oL 85 1 84),oG 83 (oO 86 (.bin .eql) [s_ 85,.val (.str ⟨#[]⟩)]),oP 87 83 86,oI 88 87,oG 88 (oF 89 6 2),oG 88 (oL 90 1 89),oG 88 (oC 91 .eql 90 0),oP 92 88 91,oI 93 92,oG 93 (oF 94 7 2),oG 93 (oL 95 1 94),oG 93 (oC 96 .eql 95 0),oP 97 93 96,oI 4 97] .ret) (.seq (oR [oC 99 .eql 31 3,oI 98 99] (.cond (s_ 98) .skip (.region [oC 100 .eql 31 4,oI 98 100]))) (.cond (s_ 98) (oR [oI 101 5,oI 102 101,oG 102 (oF 103 4 2),oG 102 (oL 104 1 103),oG 102 (oO 105 (.call znO) [s_ 104]),oP 106 102 105,oI 107 106,oG 107 (oF 108 5 2),oG 107 (oL 109 1 108),oG 107 (oO 110 (.call znO) [s_ 109]),oP 111 107 110,oI 112 111,oG 112 (oF 113 6 2),oG 112 (oL 114 1 113),oG 112 (oC 115 .eql 114 0),oP 116 112 115,oI 117 116,oG 117 (oF 118 7 2),oG 117 (oL 119 1 118),oG 117 (oC 120 .eql 119 0),oP 121 117 120,oI 4 121] .ret) (.seq (oR [oC 123 .eql 31 5,oI 122 123] (.cond (s_ 122) .skip (oR [oC 124 .eql 31 6,oI 122 124] (.cond (s_ 122) .skip (.region [oC 125 .eql 31 7,oI 122 125]))))) (oT 122 (oR [oI 126 5,oI 127 126,oG 127 (oF 128 4 2),oG 127 (oL 129 1 128),oG 127 (oO 130 (.bin .eql) [s_ 129,.val (.str ⟨#[]⟩)]),oP 131 127 130,oI 132 131,oG 132 (oF 133 5 2),oG 132 (oL 134 1 133),oG 132 (oO 135 (.bin .eql) [s_ 134,.val (.str ⟨#[]⟩)]),oP 136 132 135,oI 137 136,oG 137 (oI 138 6),oP 139 137 138,oI 140 139,oG 140 (oF 141 7 2),oG 140 (oL 142 1 141),oG 140 (oC 143 .eql 142 0),oP 144 140 143,oI 4 144] .ret))))))))))) (oR [oF 145 0 2,oL 146 1 145,oC 147 .geq 146 8,oI 148 147,oG 148 (oF 149 0 2),oG 148 (oL 150 1 149),oG 148 (oC 151 .leq 150 18),oP 152 148 151,oI 153 152,oG 153 (oI 154 5),oP 155 153 154,oI 156 155,oG 156 (oF 157 4 2),oG 156 (oL 158 1 157),oG 156 (oO 159 (.bin .eql) [s_ 158,.val (.str ⟨#[]⟩)]),oP 160 156 159,oI 161 160,oG 161 (oF 162 5 2),oG 161 (oL 163 1 162),oG 161 (oO 164 (.bin .eql) [s_ 163,.val (.str ⟨#[]⟩)]),oP 165 161 164,oI 166 165,oG 166 (oI 167 6),oP 168 166 167,oI 169 168,oG 169 (oI 170 7),oP 171 169 170,oI 4 171] .ret))))
def ztA:IFun:=⟨172,[.slot 4],ztz,6,0,zaW⟩
theorem zfT:zaX Tryz.prog [1048578] 0 zxA=some ztA:=by kernel_rfl
def zjZ:ICode:=.seq (oR [oI 4 3,oI 5 0,oO 6 .lenstr [s_ 5],oB 7 .lss 4 6] (oE 7 0)) (.seq (.block 1 (oR [oI 10 0,oI 11 3,oO 12 .ixstr [s_ 10,s_ 11],oO 13 (.bin .lss) [s_ 12,.val (.int .u8 32)],oI 14 13,oH 14 (oI 15 0),oH 14 (oI 16 3),oH 14 (oO 17 .ixstr [s_ 15,s_ 16]),oH 14 (oO 18 (.bin .gtr) [s_ 17,.val (.int .u8 126)]),oQ 19 14 18] (oT 19 (oR [oV 2 (.bool false)] .ret)))) (.region [oI 8 3,oC 9 .add 8 1,oI 3 9]))
def zDe:ICode:=oR [oV 2 (.bool false)] (.seq (oR [oV 3 (n_ 0)] (.block 0 (.loop zjZ))) (oR [oI 20 0,oO 21 .lenstr [s_ 20],oC 22 .leq 21 64,oI 2 22] .ret))
def ztB:IFun:=⟨23,[.slot 2],zDe,6,0,zaW⟩
theorem zeF:zaX Tryz.prog [] 0 zxB=some ztB:=by kernel_rfl
def zj0:ICode:=.seq (oR [oI 7 3,oI 8 0,oO 9 .lenstr [s_ 8],oB 10 .lss 7 9] (oE 10 0)) (.seq (.block 1 (oR [oI 13 0,oI 14 3,oO 15 .ixstr [s_ 13,s_ 14],oI 4 15] (oR [oI 16 4,oO 17 (.bin .geq) [s_ 16,.val (.int .u8 97)],oI 18 17,oG 18 (oI 19 4),oG 18 (oO 20 (.bin .leq) [s_ 19,.val (.int .u8 122)]),oP 21 18 20,oI 22 21,oH 22 (oI 23 4),oH 22 (oO 24 (.bin .geq) [s_ 23,.val (.int .u8 65)]),oH 22 (oI 25 24),oG 25 (oI 26 4),oG 25 (oO 27 (.bin .leq) [s_ 26,.val (.int .u8 90)]),oH 22 (oP 28 25 27),oQ 29 22 28,oI 5 29] (oR [oI 30 4,oO 31 (.bin .geq) [s_ 30,.val (.int .u8 48)],oI 32 31,oG 32 (oI 33 4),oG 32 (oO 34 (.bin .leq) [s_ 33,.val (.int .u8 57)]),oP 35 32 34,oI 36 35,oH 36 (oI 37 4),oH 36 (oO 38 (.bin .eql) [s_ 37,.val (.int .u8 95)]),oQ 39 36 38,oI 6 39] (oR [oI 40 5,oO 41 (.un .not) [s_ 40],oI 42 41,oG 42 (oI 43 6),oG 42 (oO 44 (.un .not) [s_ 43]),oG 42 (oI 45 44),oH 45 (oI 46 3),oH 45 (oC 47 .eql 46 0),oG 42 (oQ 48 45 47),oP 49 42 48] (oT 49 (oR [oV 2 (.bool false)] .ret))))))) (.region [oI 11 3,oC 12 .add 11 1,oI 3 12]))
def zAJ:ICode:=oR [oV 2 (.bool false)] (.seq (oR [oV 3 (n_ 0)] (.block 0 (.loop zj0))) (oR [oI 50 0,oO 51 .lenstr [s_ 50],oC 52 .geq 51 1,oI 53 52,oG 53 (oI 54 0),oG 53 (oO 55 .lenstr [s_ 54]),oG 53 (oC 56 .leq 55 16),oP 57 53 56,oI 2 57] .ret))
def zqR:IFun:=⟨58,[.slot 2],zAJ,6,0,zaW⟩
theorem zfy:zaX Tryz.prog [] 0 zgj=some zqR:=by kernel_rfl
def zhe:ICode:=oR [oO 2 (.allocL [.str ⟨#[]⟩,.str ⟨#[]⟩,.str ⟨#[]⟩]) [],oV 3 (.bool false)] (.seq (oR [oI 5 0,oO 6 .lenstr [s_ 5],oC 7 .gtr 6 60] (oT 7 (oR [oO 8 (.build [.str ⟨#[]⟩,.str ⟨#[]⟩,.str ⟨#[]⟩] []) [],oS 3 2 8,oV 3 (.bool false)] .ret))) (oR [oI 9 0,oO 10 (.call zs7) [s_ 9,.val (.int .u8 62)],oI 4 10] (.seq (oR [oI 11 4,oO 12 .lensl [s_ 11],oC 13 .neq 12 3,oI 14 13,oH 14 (oI 15 4),oH 14 (oO 16 (.ixaddr 1) [s_ 15,.val (n_ 0)]),oH 14 (oL 17 1 16),oH 14 (oO 18 (.call zgj) [s_ 17]),oH 14 (oO 19 (.un .not) [s_ 18]),oQ 20 14 19,oI 21 20,oH 21 (oI 22 4),oH 21 (oO 23 (.ixaddr 1) [s_ 22,.val (n_ 1)]),oH 21 (oL 24 1 23),oH 21 (oO 25 (.call zgj) [s_ 24]),oH 21 (oO 26 (.un .not) [s_ 25]),oQ 27 21 26,oI 28 27,oH 28 (oI 29 4),oH 28 (oO 30 (.ixaddr 1) [s_ 29,.val (n_ 2)]),oH 28 (oL 31 1 30),oH 28 (oO 32 (.call zgj) [s_ 31]),oH 28 (oO 33 (.un .not) [s_ 32]),oQ 34 28 33] (oT 34 (oR [oO 35 (.build [.str ⟨#[]⟩,.str ⟨#[]⟩,.str ⟨#[]⟩] []) [],oS 3 2 35,oV 3 (.bool false)] .ret))) (oR [oI 36 4,oO 37 (.ixaddr 1) [s_ 36,.val (n_ 0)],⟨some 38,none,.load 1 false,[s_ 37],(some (.heap))⟩,oI 39 4,oO 40 (.ixaddr 1) [s_ 39,.val (n_ 1)],⟨some 41,none,.load 1 false,[s_ 40],(some (.heap))⟩,oI 42 4,oO 43 (.ixaddr 1) [s_ 42,.val (n_ 2)],⟨some 44,none,.load 1 false,[s_ 43],(some (.heap))⟩,oO 45 (.build [.str ⟨#[]⟩,.str ⟨#[]⟩,.str ⟨#[]⟩] [(0,1),(2,1),(1,1)]) [s_ 38,s_ 41,s_ 44],oK 2 (oS 3 2 45),oV 3 (.bool true)] .ret))))
def zeG:IFun:=⟨46,[.cell 2 3 true,.slot 3],zhe,6,1,zaW⟩
theorem zfz:zaX Tryz.prog [1048578,3145765,3145768,3145771] 1 zlV=some zeG:=by kernel_rfl
def zDf:ICode:=oR [oC 29 .lss 28 16] (.seq (oE 29 0) (.seq (.block 1 (oR [oO 30 (.ixarr 16 1 false) [s_ 27,s_ 28],oI 5 30] (oR [oI 31 5,oC 32 .lss 31 0,oI 33 32,oH 33 (oI 34 5),oH 33 (oC 35 .gtr 34 1048576),oQ 36 33 35] (oT 36 (oR [oV 2 (.bool false)] .ret))))) (.region [oC 37 .add 28 1,oI 28 37])))
def zqS:ICode:=oR [oO 1 .boxL [s_ 0],oV 2 (.bool false)] (oR [oF 6 0 1,oM 7 2 6,oO 3 (.allocL [n_ 0,n_ 0]) [],oS 2 3 7] (.seq (oR [oF 8 0 3,oL 9 1 8,oC 10 .lss 9 0,oI 11 10,oH 11 (oF 12 0 3),oH 11 (oL 13 1 12),oH 11 (oC 14 .gtr 13 15),oQ 15 11 14,oI 16 15,oH 16 (oF 17 1 3),oH 16 (oL 18 1 17),oH 16 (oC 19 .lss 18 1),oQ 20 16 19,oI 21 20,oH 21 (oF 22 1 3),oH 21 (oL 23 1 22),oH 21 (oC 24 .gtr 23 1048576),oQ 25 21 24] (oT 25 (oR [oV 2 (.bool false)] .ret))) (.seq (oR [oF 26 2 1,oM 27 16 26,oV 28 (n_ 0)] (.block 0 (.loop zDf))) (oR [oF 38 0 3,oK 3 (oL 39 1 38),oF 40 2 1,oO 41 (.ixaddrA 16 1) [s_ 40,s_ 39],oK 1 (oL 42 1 41),oF 43 1 3,oK 3 (oL 44 1 43),oC 45 .sub 44 1,oB 46 .eql 42 45,oI 47 46,oG 47 (oF 48 18 1),oK 1 (oG 47 (oL 49 1 48)),oG 47 (oF 50 19 1),oK 1 (oG 47 (oM 51 5 50)),oG 47 (oF 52 24 1),oK 1 (oG 47 (oM 53 3 52)),oG 47 (oO 54 (.build [n_ 0,n_ 0,.str ⟨#[]⟩,.str ⟨#[]⟩,.str ⟨#[]⟩,.str ⟨#[]⟩,n_ 0,n_ 0,.str ⟨#[]⟩] [(0,1),(1,5),(6,3)]) [s_ 49,s_ 51,s_ 53]),oG 47 (oO 55 (.call zxQ) [s_ 54]),oP 56 47 55,oI 2 56] .ret))))
def zkJ:IFun:=⟨57,[.slot 2],zqS,6,0,zaW⟩
theorem zeH:zaX Tryz.prog [1048577,1048579] 0 zxC=some zkJ:=by kernel_rfl
def zyb:ICode:=oR [oO 1 .boxL [s_ 0],oV 2 (n_ 0)] (.seq (oR [oF 3 2 1,oM 4 16 3,oF 5 0 1,oM 6 2 5,oO 7 (.call zpu) [s_ 4,s_ 6],oO 8 (.un .not) [s_ 7],oI 9 8,oH 9 (oF 10 2 1),oH 9 (oM 11 16 10),oH 9 (oO 12 (.call zpv) [s_ 11]),oH 9 (oO 13 (.un .not) [s_ 12]),oQ 14 9 13] (oT 14 (oR [oV 2 (n_ 1)] .ret))) (oR [oM 15 27 1,oO 16 (.call zxS) [s_ 15],oO 17 (.call zxR) [s_ 16],oI 2 17] .ret))
def znW:IFun:=⟨18,[.slot 2],zyb,6,0,zaW⟩
theorem zkK:zaX Tryz.prog [1048577] 0 zxD=some znW:=by kernel_rfl
def zhB:ICode:=.seq (oR [oI 16 6,oI 17 0,oO 18 .lensl [s_ 17],oB 19 .lss 16 18] (oE 19 0)) (.seq (.block 1 (oR [oI 22 0,oI 23 6,oX 24 5 22 23,oM 25 5 24,oO 7 (.allocL [n_ 0,n_ 0,n_ 0,n_ 0,.str ⟨#[]⟩]) [],oS 5 7 25] (oR [oI 26 1,oM 27 5 7,oO 28 .callv [s_ 26,s_ 27],oO 29 (.un .not) [s_ 28]] (oT 29 (oR [oI 30 0,oI 31 5,oM 32 5 7,oX 33 5 30 31,oS 5 33 32] (.region [oI 34 5,oC 35 .add 34 1,oI 5 35])))))) (.region [oI 20 6,oC 21 .add 20 1,oI 6 21]))
def zAK:ICode:=oR [oV 4 .nilsl] (oR [oI 8 0,oI 9 1,oO 10 (.call zqK) [s_ 8,s_ 9],oI 5 10] (.seq (oR [oI 11 5,oC 12 .eql 11 (-1)] (oT 12 (oR [oI 13 0,oI 4 13] .ret))) (.seq (oR [oI 14 5,oC 15 .add 14 1,oI 6 15] (.block 0 (.loop zhB))) (oR [oI 36 0,oI 37 5,oO 38 (.slsl 5 true false false) [s_ 36,s_ 37],⟨none,none,.clearR 5 ((.agg [n_ 0,n_ 0,n_ 0,n_ 0,.str ⟨#[]⟩])),[s_ 38],none⟩] (oR [oI 39 0,oI 40 5,oO 41 (.slsl 5 false true false) [s_ 39,s_ 40],oI 4 41] .ret)))))
def znX:IFun:=⟨42,[.slot 4],zAK,6,0,zaW⟩
theorem zbH:zaX Tryz.prog [1048583] 0 znL=some znX:=by kernel_rfl
def zyc:ICode:=oR [oV 2 .nilsl] (.seq (oR [oI 3 0,oO 4 (.eq1 false .slice) [s_ 3,.val .nilsl]] (oT 4 (oR [oV 2 .nilsl] .ret))) (oR [oO 5 (.buildSl 5 0 (.agg [n_ 0,n_ 0,n_ 0,n_ 0,.str ⟨#[]⟩]) []) [],oI 6 0,oO 7 (.appendN 96 5 48) [s_ 5,s_ 6],oI 2 7] .ret))
def znY:IFun:=⟨8,[.slot 2],zyc,6,0,zaW⟩
theorem zb4:zaX Tryz.prog [16777223] 0 zjr=some znY:=by kernel_rfl
def zDg:ICode:=oR [oO 2 .boxL [s_ 0],oV 3 (.bool false)] (oR [oF 4 2 1,oM 5 16 4,oF 6 0 2,oM 7 2 6,oO 8 (.call zpt) [s_ 5,s_ 7],oI 3 8] .ret)
def ztC:IFun:=⟨9,[.slot 3],zDg,6,0,zaW⟩
theorem zgn:zaX Tryz.prog [1048578] 0 zxE=some ztC:=by kernel_rfl
def ztD:ICode:=oR [oO 2 .boxL [s_ 0],oO 3 .boxL [s_ 1],oV 4 (.bool false)] (oR [oK 3 (oM 5 2 3),oO 6 (.call zlX) [s_ 5],oI 7 6,oG 7 (oF 8 0 3),oK 3 (oG 7 (oL 9 1 8)),oG 7 (oO 10 (.ixaddrA 16 1) [s_ 2,s_ 9]),oK 2 (oG 7 (oL 11 1 10)),oG 7 (oF 12 1 3),oK 3 (oG 7 (oL 13 1 12)),oG 7 (oB 14 .geq 11 13),oP 15 7 14,oI 4 15] .ret)
def zj1:IFun:=⟨16,[.slot 4],ztD,6,0,zaW⟩
theorem zjw:zaX Tryz.prog [1048578,1048579] 0 zpt=some zj1:=by kernel_rfl
def zj2:ICode:=.seq (oR [oI 15 9,oI 16 10,oB 17 .lss 15 16] (oE 17 0)) (.block 1 (oR [oI 18 9,oI 19 10,oB 20 .add 18 19,oO 21 (.conv .u64) [s_ 20],oO 22 (.bin .shr) [s_ 21,.val (.int .u64 1)],oO 23 (.conv .i64) [s_ 22],oI 11 23] (oR [oI 24 2,oI 25 0,oI 26 11,oX 27 5 25 26,⟨some 28,none,.load 5 true,[s_ 27],(some (.el))⟩,oK 4 (oM 29 5 4),oO 30 .callv [s_ 24,s_ 28,s_ 29],oC 31 .lss 30 0] (.cond (s_ 31) (.region [oI 32 11,oC 33 .add 32 1,oI 9 33]) (.region [oI 34 11,oI 10 34])))))
def zDh:ICode:=oR [oO 4 .boxL [s_ 1],oV 6 (n_ 0),oV 7 (.bool false)] (oR [oI 12 0,oO 13 .lensl [s_ 12],oI 8 13] (oR [oI 14 8,oV 9 (n_ 0),oI 10 14] (.seq (.block 0 (.loop zj2)) (oR [oI 35 9,oI 36 9,oI 37 8,oB 38 .lss 36 37,oI 39 38,oG 39 (oI 40 2),oG 39 (oI 41 0),oG 39 (oI 42 9),oG 39 (oX 43 5 41 42),⟨some 44,(some (39,true)),.load 5 true,[s_ 43],(some (.el))⟩,oK 4 (oG 39 (oM 45 5 4)),oG 39 (oO 46 .callv [s_ 40,s_ 44,s_ 45]),oG 39 (oC 47 .eql 46 0),oP 48 39 47,oI 6 35,oI 7 48] .ret))))
def ztE:IFun:=⟨49,[.slot 6,.slot 7],zDh,6,0,zaW⟩
theorem za5:zaX Tryz.prog [1048580] 0 znM=some ztE:=by kernel_rfl
def zz4:ICode:=oR [oO 2 .boxL [s_ 0],oO 3 .boxL [s_ 1],oV 4 (n_ 0)] (oR [oF 5 0 2,oF 6 0 5,oK 2 (oL 7 1 6),oF 8 0 3,oF 9 0 8,oK 3 (oL 10 1 9),oO 11 (.call f_x0) [s_ 7,s_ 10],oF 12 0 2,oF 13 1 12,oK 2 (oL 14 1 13),oF 15 0 3,oF 16 1 15,oK 3 (oL 17 1 16),oO 18 (.call f_x0) [s_ 14,s_ 17],oO 19 (.buildSl 1 2 (n_ 0) [0,1]) [s_ 11,s_ 18],oO 20 (.call f_x2) [s_ 19],oI 4 20] .ret)
def zl0:IFun:=⟨21,[.slot 4],zz4,6,0,zaW⟩
theorem zkL:zaX Tryz.prog [1048578,1048579] 0 zs3=some zl0:=by kernel_rfl
def zDi:IFun:=⟨8,[],.trap,0,30,zuw⟩
def ztF:ICode:=oR [oO 4 .boxL [s_ 1]] (.seq (oR [oI 6 2,oO 7 .lensl [s_ 6],oC 8 .eql 7 0] (oT 8 (oR [oI 9 0,oO 10 .nilchk [s_ 9],oF 11 0 10,⟨some 12,none,.load 1 false,[s_ 11],(some (.heap))⟩,oK 4 (oM 13 5 4),⟨none,none,.mdel true [(.int .i64),.str,.str,.str,.str],[s_ 12,s_ 13],none⟩] .ret))) (.region [oI 14 0,oO 15 .nilchk [s_ 14],oF 16 0 15,⟨some 17,none,.load 1 false,[s_ 16],(some (.heap))⟩,oK 4 (oM 18 5 4),oI 19 2,⟨none,none,.mset true [(.int .i64),.str,.str,.str,.str],[s_ 17,s_ 18,s_ 19],none⟩]))
def zj3:IFun:=⟨20,[],ztF,6,0,zaW⟩
theorem zhf:zaX Tryz.prog [1048580] 0 zlW=some zj3:=by kernel_rfl
def zkM:ICode:=oR [oO 5 .boxL [s_ 2]] (oR [oF 7 0 5,oL 8 1 7] (.block 0 (oR [oC 10 .eql 8 1,oI 9 10] (.cond (s_ 9) (oR [oI 11 0,oO 12 .nilchk [s_ 11],oF 13 7 12,⟨some 14,none,.load 1 false,[s_ 13],(some (.heap))⟩,oK 5 (oM 15 5 5),⟨none,none,.mset true [(.int .i64),.str,.str,.str,.str],[s_ 14,s_ 15,.val (.bool true)],none⟩] (.region [oI 16 0,oI 17 0,oO 18 .nilchk [s_ 17],oF 19 0 18,⟨some 20,none,.load 1 false,[s_ 19],(some (.heap))⟩,oF 21 1 5,oK 5 (oL 22 1 21),oO 23 (.buildSl 1 1 (.str ⟨#[]⟩) [0]) [s_ 22],oO 24 (.appendT 9 1 16) [s_ 20,s_ 23],oO 25 .nilchk [s_ 16],oF 26 0 25,⟨none,none,.store 1,[s_ 26,s_ 24],(some (.heap))⟩])) (oR [oC 28 .eql 8 2,oI 27 28] (.cond (s_ 27) (oR [oI 29 0,oO 30 .nilchk [s_ 29],oF 31 7 30,⟨some 32,none,.load 1 false,[s_ 31],(some (.heap))⟩,oF 33 1 5,oK 5 (oL 34 1 33),oO 35 (.callP znN) [s_ 34],oO 36 (.mlook true [(.int .i64),.str,.str,.str,.str] (.bool false) false) [s_ 32,s_ 35]] (oT 36 (.region [oI 37 0,oO 38 .nilchk [s_ 37],oF 39 2 38,⟨some 40,none,.load 1 false,[s_ 39],(some (.heap))⟩,oF 41 1 5,oK 5 (oL 42 1 41),oI 43 0,oO 44 .nilchk [s_ 43],oF 45 2 44,⟨some 46,none,.load 1 false,[s_ 45],(some (.heap))⟩,oF 47 1 5,oK 5 (oL 48 1 47),oO 49 (.mlook false [.str] .nilsl false) [s_ 46,s_ 48],oF 50 4 5,oK 5 (oL 51 1 50),oO 52 (.buildSl 1 1 (.str ⟨#[]⟩) [0]) [s_ 51],oO 53 (.appendT 9 1 16) [s_ 49,s_ 52],⟨none,none,.mset false [.str],[s_ 40,s_ 42,s_ 53],none⟩]))) (oR [oC 55 .eql 8 3,oI 54 55] (.cond (s_ 54) (oR [oI 56 0,oO 57 .nilchk [s_ 56],oF 58 7 57,⟨some 59,none,.load 1 false,[s_ 58],(some (.heap))⟩,oF 60 1 5,oK 5 (oL 61 1 60),oO 62 (.callP znN) [s_ 61],oO 63 (.mlook true [(.int .i64),.str,.str,.str,.str] (.bool false) false) [s_ 59,s_ 62],oI 64 63,oG 64 (oI 65 0),oG 64 (oO 66 .nilchk [s_ 65]),oG 64 (oF 67 7 66),⟨some 68,(some (64,true)),.load 1 false,[s_ 67],(some (.heap))⟩,oG 64 (oF 69 2 5),oK 5 (oG 64 (oL 70 1 69)),oG 64 (oO 71 (.callP znN) [s_ 70]),oG 64 (oO 72 (.mlook true [(.int .i64),.str,.str,.str,.str] (.bool false) false) [s_ 68,s_ 71]),oP 73 64 72] (oT 73 (oR [oI 74 0,oO 75 .nilchk [s_ 74],oF 76 7 75,⟨some 77,none,.load 1 false,[s_ 76],(some (.heap))⟩,oK 5 (oM 78 5 5),⟨none,none,.mset true [(.int .i64),.str,.str,.str,.str],[s_ 77,s_ 78,.val (.bool true)],none⟩] (.region [oI 79 0,oI 80 0,oO 81 .nilchk [s_ 80],oF 82 1 81,⟨some 83,none,.load 1 false,[s_ 82],(some (.heap))⟩,oK 5 (oM 84 5 5),oO 85 (.callP zs8) [s_ 84],oO 86 (.buildSl 3 1 (.agg [.str ⟨#[]⟩,.str ⟨#[]⟩,.str ⟨#[]⟩]) [0]) [s_ 85],oO 87 (.appendN 73 3 48) [s_ 83,s_ 86],oO 88 .nilchk [s_ 79],oF 89 1 88,⟨none,none,.store 1,[s_ 89,s_ 87],(some (.heap))⟩])))) (.seq (oR [oC 91 .eql 8 4,oI 90 91] (.cond (s_ 90) .skip (.region [oC 92 .eql 8 5,oI 90 92]))) (oT 90 (oR [oM 93 5 5,oO 94 (.call zxU) [s_ 93],oO 6 (.allocL [n_ 0,.str ⟨#[]⟩,.str ⟨#[]⟩,.str ⟨#[]⟩,.str ⟨#[]⟩]) [],oS 5 6 94] (oR [oI 95 0,oO 96 .nilchk [s_ 95],oF 97 7 96,⟨some 98,none,.load 1 false,[s_ 97],(some (.heap))⟩,oK 6 (oM 99 5 6),oO 100 (.mlook true [(.int .i64),.str,.str,.str,.str] (.bool false) false) [s_ 98,s_ 99]] (oT 100 (oR [oI 101 0,oO 102 .nilchk [s_ 101],oF 103 5 102,⟨some 104,none,.load 1 false,[s_ 103],(some (.heap))⟩,oK 5 (oM 105 5 5),oI 106 1,oK 5 (oM 107 5 5),oO 108 (.callP zlY) [s_ 106,s_ 107],⟨none,none,.mset true [(.int .i64),.str,.str,.str,.str],[s_ 104,s_ 105,s_ 108],none⟩] (.region [oI 109 0,oO 110 .nilchk [s_ 109],oF 111 6 110,⟨some 112,none,.load 1 false,[s_ 111],(some (.heap))⟩,oK 6 (oM 113 5 6),oF 115 4 5,oK 5 (oL 116 1 115),oO 117 (.buildSl 1 1 (.str ⟨#[]⟩) [0]) [s_ 116],oO 114 (.mlook true [(.int .i64),.str,.str,.str,.str] .nilsl false) [s_ 112,s_ 113],⟨none,none,.mset true [(.int .i64),.str,.str,.str,.str],[s_ 112,s_ 113,s_ 114],none⟩,oO 119 (.appendT 9 1 16) [s_ 114,s_ 117],⟨none,none,.mset true [(.int .i64),.str,.str,.str,.str],[s_ 112,s_ 113,s_ 119],none⟩,oV 118 .junk,oV 120 .junk])))))))))))))))
def zdY:IFun:=⟨121,[],zkM,6,0,zaW⟩
theorem zhS:zaX Tryz.prog [1048581,1048582,2097229,2097262,2097263,2097264,33554432,16777303] 0 zfu=some zdY:=by kernel_rfl
def zDj:IFun:=⟨8,[],.trap,0,30,zk3⟩
def b_x37:ICode:=oR [oO 2 .boxL [s_ 0],oO 3 .boxL [s_ 1],oV 4 (n_ 0)] (oR [oF 5 0 2,oK 2 (oL 6 1 5),oF 7 0 3,oK 3 (oL 8 1 7),oO 9 (.call f_x1) [s_ 6,s_ 8],oF 10 2 2,oK 2 (oL 11 1 10),oF 12 2 3,oK 3 (oL 13 1 12),oO 14 (.call f_x1) [s_ 11,s_ 13],oF 15 1 2,oK 2 (oL 16 1 15),oF 17 1 3,oK 3 (oL 18 1 17),oO 19 (.call f_x1) [s_ 16,s_ 18],oO 20 (.buildSl 1 3 (n_ 0) [0,1,2]) [s_ 9,s_ 14,s_ 19],oO 21 (.call f_x2) [s_ 20],oI 4 21] .ret)
def F_x37:IFun:=⟨22,[.slot 4],b_x37,6,0,zaW⟩
theorem c_graph_order:zaX Tryz.prog [1048578,1048579] 0 f_x37=some F_x37:=by kernel_rfl
def zDk:ICode:=oR [oO 1 .boxL [s_ 0],oV 2 (.bool false)] (oR [oF 3 1 1,oM 4 3 3,oO 5 (.call zii) [s_ 4],oO 6 (.un .not) [s_ 5],oI 2 6] .ret)
def ztG:IFun:=⟨7,[.slot 2],zDk,6,0,zaW⟩
theorem zkN:zaX Tryz.prog [1048577] 0 zAH=some ztG:=by kernel_rfl
def zfI:ICode:=oR [oO 1 .boxL [s_ 0],oV 2 (.bool false)] (.seq (oR [oF 5 0 1,oL 6 1 5] (.block 0 (oR [oC 8 .eql 6 0,oI 7 8] (.cond (s_ 7) (oR [oF 9 1 1,oL 10 1 9,oC 11 .eql 10 0,oI 12 11,oG 12 (oF 13 2 1),oG 12 (oL 14 1 13),oG 12 (oO 15 (.bin .eql) [s_ 14,.val (.str ⟨#[]⟩)]),oP 16 12 15,oI 2 16] .ret) (oR [oC 18 .eql 6 1,oI 17 18] (.cond (s_ 17) (oR [oF 19 1 1,oL 20 1 19,oC 21 .andNot 20 1,oC 22 .eql 21 0,oI 23 22,oG 23 (oF 24 2 1),oG 23 (oL 25 1 24),oG 23 (oO 26 (.bin .eql) [s_ 25,.val (.str ⟨#[]⟩)]),oP 27 23 26,oI 2 27] .ret) (oR [oC 29 .eql 6 2,oI 28 29] (.cond (s_ 28) (oR [oF 30 1 1,oL 31 1 30,oC 32 .geq 31 (-1099511627776),oI 33 32,oG 33 (oF 34 1 1),oG 33 (oL 35 1 34),oG 33 (oC 36 .leq 35 1099511627776),oP 37 33 36,oI 38 37,oG 38 (oF 39 2 1),oG 38 (oL 40 1 39),oG 38 (oO 41 (.bin .eql) [s_ 40,.val (.str ⟨#[]⟩)]),oP 42 38 41,oI 2 42] .ret) (oR [oC 44 .eql 6 3,oI 43 44] (.cond (s_ 43) (oR [oF 45 1 1,oL 46 1 45,oC 47 .eql 46 0,oI 48 47,oG 48 (oF 49 2 1),oG 48 (oL 50 1 49),oG 48 (oO 51 (.call zpw) [s_ 50]),oP 52 48 51,oI 2 52] .ret) (oR [oC 54 .eql 6 4,oI 53 54] (oT 53 (oR [oF 55 1 1,oL 56 1 55,oC 57 .eql 56 0,oI 58 57,oG 58 (oF 59 2 1),oG 58 (oL 60 1 59),oG 58 (oO 61 (.call zij) [s_ 60]),oP 62 58 61,oI 2 62] .ret))))))))))))) (oR [oM 64 3 1,oO 65 (.call zgl) [s_ 64],oI 63 65,oO 66 (.extract 0) [s_ 63],oO 67 (.extract 1) [s_ 63],oO 3 (.allocL [.str ⟨#[]⟩,.str ⟨#[]⟩,.str ⟨#[]⟩]) [],oS 3 3 66,oI 4 67] (oR [oI 68 4,oI 2 68] .ret)))
def zdH:IFun:=⟨69,[.slot 2],zfI,6,0,zaW⟩
theorem zkO:zaX Tryz.prog [1048577,1048579] 0 zii=some zdH:=by kernel_rfl
def zz5:ICode:=oR [oB 8 .lss 7 6] (.seq (oE 8 0) (.seq (.block 1 (oR [oI 9 7,oX 10 8 5 7,oM 11 8 10,oO 4 (.allocL [n_ 0,n_ 0,n_ 0,.str ⟨#[]⟩,.str ⟨#[]⟩,.str ⟨#[]⟩,n_ 0,n_ 0]) [],oI 3 9,oS 8 4 11] (oR [oM 12 8 4,oI 13 3,oO 14 (.call zxV) [s_ 12,s_ 13],oO 15 (.un .not) [s_ 14]] (oT 15 (oR [oV 2 (n_ 1)] .ret))))) (.region [oC 16 .add 7 1,oI 7 16])))
def zDl:ICode:=oR [oV 2 (n_ 0)] (.seq (oR [oI 5 0,oO 6 .lensl [s_ 5],oV 7 (n_ 0)] (.block 0 (.loop zz5))) (oR [oV 2 (n_ 0)] .ret))
def ztH:IFun:=⟨17,[.slot 2],zDl,6,0,zaW⟩
theorem zl1:zaX Tryz.prog [1048580] 0 zxH=some ztH:=by kernel_rfl
def zDm:ICode:=oR [oV 4 (.bool false)] (oR [oI 5 0,oI 6 1,oO 7 (.call zqL) [s_ 5,s_ 6],oC 8 .geq 7 0,oI 4 8] .ret)
def ztI:IFun:=⟨9,[.slot 4],zDm,6,0,zaW⟩
theorem zbX:zaX Tryz.prog [] 0 zxI=some ztI:=by kernel_rfl
def zDn:ICode:=oR [oO 3 .boxL [s_ 1],oO 4 (.allocL [n_ 0,n_ 0,.str ⟨#[]⟩]) []] (.seq (oR [oF 7 0 3,oL 8 1 7,oC 9 .lss 8 5] (oT 9 (oR [oI 10 0,oM 11 8 3,oO 12 (.call znP) [s_ 10,s_ 11],oS 3 4 12] .ret))) (.seq (oR [oI 13 0,oO 14 .nilchk [s_ 13],oF 15 3 14,⟨some 16,none,.load 1 false,[s_ 15],(some (.heap))⟩,oF 17 6 3,oK 3 (oL 18 1 17),oX 19 3 16 18,⟨some 20,none,.load 3 true,[s_ 19],(some (.el))⟩,oO 5 (.allocK 8 [n_ 0,n_ 0,.str ⟨#[]⟩]) [],oK 5 (oS 3 5 20)] (.bump 10)) (.seq (oR [oF 21 0 3,oL 22 1 21,oC 23 .lss 22 8] (oT 23 (oR [oF 24 0 3,oL 25 1 24,oM 26 3 5,oO 27 (.call zxW) [s_ 25,s_ 26],oS 3 4 27] .ret))) (.seq (oR [oI 28 0,oO 29 .nilchk [s_ 28],oF 30 3 29,⟨some 31,none,.load 1 false,[s_ 30],(some (.heap))⟩,oF 32 7 3,oK 3 (oL 33 1 32),oX 34 3 31 33,⟨some 35,none,.load 3 true,[s_ 34],(some (.el))⟩,oO 6 (.allocK 8 [n_ 0,n_ 0,.str ⟨#[]⟩]) [],oK 6 (oS 3 6 35)] (.bump 10)) (.seq (.block 0 (oR [oF 37 0 3,oL 38 1 37,oC 39 .eql 38 8,oI 36 39] (.cond (s_ 36) (oR [oM 40 3 5,oM 41 3 6,oO 42 (.call zs9) [s_ 40,s_ 41,.val (.bool true)],oS 3 4 42] .ret) (oR [oF 44 0 3,oL 45 1 44,oC 46 .eql 45 9,oI 43 46] (.cond (s_ 43) (oR [oM 47 3 5,oM 48 3 6,oO 49 (.call zs9) [s_ 47,s_ 48,.val (.bool false)],oS 3 4 49] .ret) (oR [oF 51 0 3,oL 52 1 51,oC 53 .lss 52 16,oI 50 53] (oT 50 (oR [oF 54 0 3,oL 55 1 54,oM 56 3 5,oM 57 3 6,oO 58 (.call zxX) [s_ 55,s_ 56,s_ 57],oS 3 4 58] .ret)))))))) (oR [oF 59 0 3,oL 60 1 59,oM 61 3 5,oM 62 3 6,oO 63 (.call zxY) [s_ 60,s_ 61,s_ 62],oS 3 4 63] .ret))))))
def ztJ:IFun:=⟨64,[.cell 4 3 true],zDn,6,1,zaW⟩
theorem zgo:zaX Tryz.prog [1048579,1048580,1048581,1048582,2097273] 1 zxJ=some ztJ:=by kernel_rfl
def zDo:ICode:=oR [oO 2 (.allocL [n_ 0,n_ 0,.str ⟨#[]⟩]) []] (oR [oO 4 (.build [n_ 0,n_ 0,.str ⟨#[]⟩] [(0,1)]) [.val (n_ 1)],oO 3 (.allocL [n_ 0,n_ 0,.str ⟨#[]⟩]) [],oS 3 3 4] (.seq (oR [oI 5 0] (oT 5 (.region [oF 6 1 3,⟨none,none,.store 1,[s_ 6,.val (n_ 1)],none⟩]))) (oR [oM 7 3 3,oS 3 2 7] .ret)))
def ztK:IFun:=⟨8,[.cell 2 3 true],zDo,6,0,zaW⟩
theorem zjx:zaX Tryz.prog [1048578,1048579] 0 zgk=some ztK:=by kernel_rfl
def zz6:ICode:=oR [oB 11 .lss 10 9] (.seq (oE 11 0) (.seq (.block 1 (oR [oI 12 10,oX 13 1 8 10,oL 14 1 13,oI 5 12,oI 6 14] (oR [oI 15 6,oI 16 1,oB 17 .eql 15 16] (oT 17 (oR [oF 18 1 2,oL 19 1 18,oI 20 5,oX 21 3 19 20,oM 22 3 21,oS 3 4 22] .ret))))) (.region [oC 23 .add 10 1,oI 10 23])))
def zDp:ICode:=oR [oO 2 .boxL [s_ 0],oO 4 (.allocL [n_ 0,n_ 0,.str ⟨#[]⟩]) []] (.seq (oR [oF 7 0 2,oL 8 1 7,oO 9 .lensl [s_ 8],oV 10 (n_ 0)] (.block 0 (.loop zz6))) (oR [oO 24 (.build [n_ 0,n_ 0,.str ⟨#[]⟩] []) [],oS 3 4 24] .ret))
def ztL:IFun:=⟨25,[.cell 4 3 true],zDp,6,0,zaW⟩
theorem zdZ:zaX Tryz.prog [1048578,1048580] 0 zqF=some ztL:=by kernel_rfl
def zDq:ICode:=oR [oO 4 .boxL [s_ 1],oV 6 .nilsl] (.seq (oR [oF 9 0 4,oL 10 1 9,oC 11 .eql 10 4] (oT 11 (oR [oI 12 0,oF 13 2 4,oL 14 1 13,oI 15 2,oO 16 (.build [n_ 0,.str ⟨#[]⟩,.str ⟨#[]⟩,.str ⟨#[]⟩,.str ⟨#[]⟩] [(0,1),(1,1),(4,1)]) [.val (n_ 4),s_ 14,s_ 15],oO 17 (.call zqD) [s_ 12,s_ 16],oI 6 17] .ret))) (.seq (oR [oF 18 0 4,oL 19 1 18,oC 20 .eql 19 5] (oT 20 (oR [oF 22 2 4,oL 23 1 22,oO 24 (.call zlV) [s_ 23],oI 21 24,oO 25 (.extract 0) [s_ 21],oO 26 (.extract 1) [s_ 21],oO 7 (.allocL [.str ⟨#[]⟩,.str ⟨#[]⟩,.str ⟨#[]⟩]) [],oS 3 7 25,oI 8 26] (oR [oI 27 0,oF 28 0 7,oL 29 1 28,oF 30 1 7,oL 31 1 30,oF 32 2 7,oL 33 1 32,oI 34 2,oO 35 (.build [n_ 0,.str ⟨#[]⟩,.str ⟨#[]⟩,.str ⟨#[]⟩,.str ⟨#[]⟩] [(0,1),(1,1),(2,1),(3,1),(4,1)]) [.val (n_ 5),s_ 29,s_ 31,s_ 33,s_ 34],oO 36 (.call zqD) [s_ 27,s_ 35],oI 6 36] .ret)))) (oR [oV 6 .nilsl] .ret)))
def ztM:IFun:=⟨37,[.slot 6],zDq,6,1,zaW⟩
theorem zeq:zaX Tryz.prog [1048580,1048583,2097189,2097201] 1 zqG=some ztM:=by kernel_rfl
def zDr:ICode:=oR [oO 2 (.allocL [n_ 0,n_ 0,.str ⟨#[]⟩]) []] (.seq (oR [oI 3 0] (oT 3 (oR [oO 4 (.build [n_ 0,n_ 0,.str ⟨#[]⟩] [(0,1),(1,1)]) [.val (n_ 1),.val (n_ 1)],oS 3 2 4] .ret))) (oR [oO 5 (.build [n_ 0,n_ 0,.str ⟨#[]⟩] [(0,1)]) [.val (n_ 1)],oS 3 2 5] .ret))
def ztN:IFun:=⟨6,[.cell 2 3 true],zDr,6,0,zaW⟩
theorem zd0:zaX Tryz.prog [1048578] 0 zjs=some ztN:=by kernel_rfl
def zqT:ICode:=oR [oO 3 .boxL [s_ 0],oO 4 .boxL [s_ 1],oO 6 (.allocL [n_ 0,n_ 0,.str ⟨#[]⟩]) []] (oR [oI 9 2,oO 10 (.call zjs) [s_ 9],oI 11 2,oO 12 (.un .not) [s_ 11],oO 13 (.call zjs) [s_ 12],oO 7 (.allocL [n_ 0,n_ 0,.str ⟨#[]⟩]) [],oO 8 (.allocL [n_ 0,n_ 0,.str ⟨#[]⟩]) [],oS 3 7 10,oS 3 8 13] (.seq (oR [oM 14 3 3,oM 15 3 7,oO 16 (.eqv false [(.int .i64),(.int .i64),.str]) [s_ 14,s_ 15],oI 17 16,oH 17 (oM 18 3 4),oH 17 (oM 19 3 7),oH 17 (oO 20 (.eqv false [(.int .i64),(.int .i64),.str]) [s_ 18,s_ 19]),oQ 21 17 20] (oT 21 (oR [oM 22 3 7,oS 3 6 22] .ret))) (.seq (oR [oM 23 3 3,oM 24 3 8,oO 25 (.eqv false [(.int .i64),(.int .i64),.str]) [s_ 23,s_ 24],oI 26 25,oG 26 (oM 27 3 4),oG 26 (oM 28 3 8),oG 26 (oO 29 (.eqv false [(.int .i64),(.int .i64),.str]) [s_ 27,s_ 28]),oP 30 26 29] (oT 30 (oR [oM 31 3 8,oS 3 6 31] .ret))) (oR [oO 32 (.build [n_ 0,n_ 0,.str ⟨#[]⟩] []) [],oS 3 6 32] .ret))))
def zkP:IFun:=⟨33,[.cell 6 3 true],zqT,6,0,zaW⟩
theorem zeI:zaX Tryz.prog [1048579,1048580,1048582,1048583,1048584] 0 zs4=some zkP:=by kernel_rfl
def zDs:ICode:=oR [oO 4 .boxL [s_ 1],oO 5 .boxL [s_ 2],oO 6 (.allocL [n_ 0,n_ 0,.str ⟨#[]⟩]) []] (.seq (oR [oF 8 0 4,oL 9 1 8,oF 10 0 5,oL 11 1 10,oB 12 .neq 9 11,oI 13 12,oH 13 (oF 14 0 4),oH 13 (oL 15 1 14),oH 13 (oC 16 .lss 15 1),oQ 17 13 16,oI 18 17,oH 18 (oF 19 0 4),oH 18 (oL 20 1 19),oH 18 (oC 21 .gtr 20 3),oQ 22 18 21] (oT 22 (oR [oO 23 (.build [n_ 0,n_ 0,.str ⟨#[]⟩] []) [],oS 3 6 23] .ret))) (oR [oM 24 3 4,oM 25 3 5,oO 26 (.call zqJ) [s_ 24,s_ 25],oI 7 26] (oR [oI 27 0,oC 28 .eql 27 12,oI 29 28,oG 29 (oI 30 7),oG 29 (oC 31 .lss 30 0),oP 32 29 31,oI 33 32,oH 33 (oI 34 0),oH 33 (oC 35 .eql 34 13),oH 33 (oI 36 35),oG 36 (oI 37 7),oG 36 (oC 38 .leq 37 0),oH 33 (oP 39 36 38),oQ 40 33 39,oI 41 40,oH 41 (oI 42 0),oH 41 (oC 43 .eql 42 14),oH 41 (oI 44 43),oG 44 (oI 45 7),oG 44 (oC 46 .gtr 45 0),oH 41 (oP 47 44 46),oQ 48 41 47,oI 49 48,oH 49 (oI 50 0),oH 49 (oC 51 .eql 50 15),oH 49 (oI 52 51),oG 52 (oI 53 7),oG 52 (oC 54 .geq 53 0),oH 49 (oP 55 52 54),oQ 56 49 55,oO 57 (.call zjs) [s_ 56],oS 3 6 57] .ret)))
def ztO:IFun:=⟨58,[.cell 6 3 true],zDs,6,0,zaW⟩
theorem zeJ:zaX Tryz.prog [1048580,1048581,1048582] 0 zxK=some ztO:=by kernel_rfl
def zyd:ICode:=oR [oV 2 (n_ 0)] (.seq (oR [oI 3 0,oC 4 .lss 3 (-1099511627776)] (oT 4 (oR [oV 2 (.int .i64 (-1099511627776))] .ret))) (.seq (oR [oI 5 0,oC 6 .gtr 5 1099511627776] (oT 6 (oR [oV 2 (n_ 1099511627776)] .ret))) (oR [oI 7 0,oI 2 7] .ret)))
def znZ:IFun:=⟨8,[.slot 2],zyd,6,0,zaW⟩
theorem zeK:zaX Tryz.prog [] 0 zqH=some znZ:=by kernel_rfl
def zDt:ICode:=oR [oV 4 (n_ 0)] (.seq (oR [oI 5 0,oC 6 .neq 5 0,oI 7 6,oG 7 (oI 8 1),oG 7 (oC 9 .neq 8 0),oP 10 7 9,oI 11 10,oG 11 (oI 12 0),oG 11 (oI 13 0),oG 11 (oO 14 (.un .neg) [s_ 13]),oG 11 (oO 15 (.minmax true) [s_ 12,s_ 14]),oG 11 (oI 16 1),oG 11 (oI 17 1),oG 11 (oO 18 (.un .neg) [s_ 17]),oG 11 (oO 19 (.minmax true) [s_ 16,s_ 18]),oG 11 (oO 20 (.bin .quo) [.val (n_ 2199023255552),s_ 19]),oG 11 (oB 21 .gtr 15 20),oP 22 11 21] (oT 22 (.seq (oR [oI 23 0,oC 24 .lss 23 0,oI 25 1,oC 26 .lss 25 0,oO 27 (.eq1 true .bool) [s_ 24,s_ 26]] (oT 27 (oR [oV 4 (.int .i64 (-1099511627776))] .ret))) (oR [oV 4 (n_ 1099511627776)] .ret)))) (oR [oI 28 0,oI 29 1,oB 30 .mul 28 29,oO 31 (.call zqH) [s_ 30],oI 4 31] .ret))
def ztP:IFun:=⟨32,[.slot 4],zDt,6,0,zaW⟩
theorem zeL:zaX Tryz.prog [] 0 zxL=some ztP:=by kernel_rfl
def zDu:ICode:=oR [oO 2 (.allocL [n_ 0,.str ⟨#[]⟩,.str ⟨#[]⟩,.str ⟨#[]⟩,.str ⟨#[]⟩]) []] (oR [oI 3 0,oO 4 (.build [n_ 0,.str ⟨#[]⟩,.str ⟨#[]⟩,.str ⟨#[]⟩,.str ⟨#[]⟩] [(0,1),(1,1)]) [.val (n_ 1),s_ 3],oS 5 2 4] .ret)
def ztQ:IFun:=⟨5,[.cell 2 5 true],zDu,6,1,zaW⟩
theorem zl2:zaX Tryz.prog [1048578] 1 znN=some ztQ:=by kernel_rfl
def zDv:ICode:=oR [oO 1 .boxL [s_ 0],oO 2 (.allocL [n_ 0,.str ⟨#[]⟩,.str ⟨#[]⟩,.str ⟨#[]⟩,.str ⟨#[]⟩]) []] (oR [oF 3 0 1,oL 4 1 3,oF 5 1 1,oL 6 1 5,oF 7 2 1,oL 8 1 7,oO 9 (.build [n_ 0,.str ⟨#[]⟩,.str ⟨#[]⟩,.str ⟨#[]⟩,.str ⟨#[]⟩] [(0,1),(1,1),(2,1),(3,1)]) [.val (n_ 3),s_ 4,s_ 6,s_ 8],oS 5 2 9] .ret)
def ztR:IFun:=⟨10,[.cell 2 5 true],zDv,6,1,zaW⟩
theorem zl3:zaX Tryz.prog [1048577,1048578] 1 zxM=some ztR:=by kernel_rfl
def zpz:IFun:=⟨8,[],.trap,0,10,zaW⟩
def zDw:ICode:=oR [oO 1 .boxL [s_ 0],oO 2 (.allocL [n_ 0,.str ⟨#[]⟩,.str ⟨#[]⟩,.str ⟨#[]⟩,.str ⟨#[]⟩]) []] (oR [oF 3 0 1,oL 4 1 3,oF 5 1 1,oL 6 1 5,oF 7 2 1,oL 8 1 7,oO 9 (.build [n_ 0,.str ⟨#[]⟩,.str ⟨#[]⟩,.str ⟨#[]⟩,.str ⟨#[]⟩] [(0,1),(1,1),(2,1),(3,1)]) [.val (n_ 3),s_ 4,s_ 6,s_ 8],oS 5 2 9] .ret)
def ztS:IFun:=⟨10,[.cell 2 5 true],zDw,6,1,zaW⟩
theorem zfA:zaX Tryz.prog [1048577,1048578] 1 zxN=some ztS:=by kernel_rfl
def zAL:ICode:=oR [oV 2 .nilsl] (.seq (oR [oI 3 0,oO 4 (.eq1 false .slice) [s_ 3,.val .nilsl]] (oT 4 (oR [oV 2 .nilsl] .ret))) (oR [oO 5 (.buildSl 3 0 (.agg [n_ 0,n_ 0,.str ⟨#[]⟩]) []) [],oI 6 0,oO 7 (.append 34 3 32) [s_ 5,s_ 6],oI 2 7] .ret))
def zn0:IFun:=⟨8,[.slot 2],zAL,6,0,zaW⟩
theorem zcz:zaX Tryz.prog [] 0 zxO=some zn0:=by kernel_rfl
def ztT:ICode:=oR [oO 3 .boxL [s_ 1],oV 4 (.bool false)] (.seq (oR [oF 5 0 3,oL 6 1 5] (.block 0 (.seq (oR [oC 8 .eql 6 2,oI 7 8] (.cond (s_ 7) .skip (.region [oC 9 .eql 6 4,oI 7 9]))) (.cond (s_ 7) (oR [oI 10 0,oF 11 1 3,oL 12 1 11,oO 13 (.call zqE) [s_ 10,s_ 12],oI 4 13] .ret) (oR [oC 15 .eql 6 5,oI 14 15] (oT 14 (oR [oI 16 0,oF 17 1 3,oL 18 1 17,oF 19 2 3,oL 20 1 19,oF 21 3 3,oL 22 1 21,oO 23 (.build [.str ⟨#[]⟩,.str ⟨#[]⟩,.str ⟨#[]⟩] [(0,1),(1,1),(2,1)]) [s_ 18,s_ 20,s_ 22],oO 24 (.call zxz) [s_ 16,s_ 23],oI 4 24] .ret))))))) (oR [oV 4 (.bool false)] .ret))
def zl4:IFun:=⟨25,[.slot 4],ztT,6,1,zaW⟩
theorem zfB:zaX Tryz.prog [1048579,2097190,2097193] 1 zxP=some zl4:=by kernel_rfl
def zpA:ICode:=oR [oB 34 .lss 33 32] (.seq (oE 34 2) (.seq (.block 3 (oR [oX 35 27 31 33,oM 36 27 35,oO 10 (.allocL [n_ 0,n_ 0,n_ 0,n_ 0,n_ 0,n_ 0,n_ 0,n_ 0,n_ 0,n_ 0,n_ 0,n_ 0,n_ 0,n_ 0,n_ 0,n_ 0,n_ 0,n_ 0,n_ 0,n_ 0,.str ⟨#[]⟩,.str ⟨#[]⟩,.str ⟨#[]⟩,.str ⟨#[]⟩,n_ 0,n_ 0,.str ⟨#[]⟩]) [],oS 27 10 36] (oR [oF 37 19 10,oM 38 5 37,oM 39 5 3,oO 40 (.eqv false [(.int .i64),.str,.str,.str,.str]) [s_ 38,s_ 39],oI 41 40,oG 41 (oF 42 18 10),oG 41 (oL 43 1 42),oG 41 (oC 44 .neq 43 1),oP 45 41 44,oI 46 45,oG 46 (oF 47 0 10),oG 46 (oM 48 2 47),oG 46 (oF 49 0 7),oG 46 (oM 50 2 49),oG 46 (oO 51 (.eqv true [(.int .i64),(.int .i64)]) [s_ 48,s_ 50]),oP 52 46 51,oI 53 52,oG 53 (oF 54 2 10),oG 53 (oM 55 16 54),oG 53 (oF 56 0 7),oG 53 (oM 57 2 56),oG 53 (oO 58 (.call zxZ) [s_ 55,s_ 57]),oP 59 53 58] (oT 59 (.region [oV 8 (.bool false)]))))) (.region [oC 60 .add 33 1,oI 33 60])))
def ztU:ICode:=oR [oB 14 .lss 13 12] (.seq (oE 14 0) (.seq (.block 1 (oR [oX 15 27 11 13,oM 16 27 15,oO 7 (.allocL [n_ 0,n_ 0,n_ 0,n_ 0,n_ 0,n_ 0,n_ 0,n_ 0,n_ 0,n_ 0,n_ 0,n_ 0,n_ 0,n_ 0,n_ 0,n_ 0,n_ 0,n_ 0,n_ 0,n_ 0,.str ⟨#[]⟩,.str ⟨#[]⟩,.str ⟨#[]⟩,.str ⟨#[]⟩,n_ 0,n_ 0,.str ⟨#[]⟩]) [],oS 27 7 16] (.seq (oR [oF 17 19 7,oM 18 5 17,oM 19 5 3,oO 20 (.eqv true [(.int .i64),.str,.str,.str,.str]) [s_ 18,s_ 19],oI 21 20,oH 21 (oF 22 18 7),oH 21 (oL 23 1 22),oH 21 (oC 24 .neq 23 1),oH 21 (oI 25 24),oG 25 (oF 26 18 7),oG 25 (oL 27 1 26),oG 25 (oC 28 .neq 27 3),oH 21 (oP 29 25 28),oQ 30 21 29] (oT 30 (.exit 1))) (oR [oV 8 (.bool true)] (.seq (oR [oI 31 0,oO 32 .lensl [s_ 31],oV 33 (n_ 0)] (.block 2 (.loop zpA))) (oR [oI 61 8] (oT 61 (.region [oI 62 5,oM 63 27 7,oO 64 (.buildSl 27 1 (.agg [n_ 0,n_ 0,n_ 0,n_ 0,n_ 0,n_ 0,n_ 0,n_ 0,n_ 0,n_ 0,n_ 0,n_ 0,n_ 0,n_ 0,n_ 0,n_ 0,n_ 0,n_ 0,n_ 0,n_ 0,.str ⟨#[]⟩,.str ⟨#[]⟩,.str ⟨#[]⟩,.str ⟨#[]⟩,n_ 0,n_ 0,.str ⟨#[]⟩]) [0]) [s_ 63],oO 65 (.append 36 27 256) [s_ 62,s_ 64],oI 5 65])))))))) (.region [oC 66 .add 13 1,oI 13 66])))
def zDx:ICode:=oR [oO 3 .boxL [s_ 1],oV 4 .nilsl] (oR [oV 5 .nilsl] (.seq (oR [oI 11 0,oO 12 .lensl [s_ 11],oV 13 (n_ 0)] (.block 0 (.loop ztU))) (oR [oI 67 5,oI 4 67] .ret)))
def ztV:IFun:=⟨68,[.slot 4],zDx,6,0,zaW⟩
theorem zfC:zaX Tryz.prog [1048579,1048583,1048586] 0 zqI=some ztV:=by kernel_rfl
def zik:ICode:=.seq (oR [oI 26 5,oF 27 2 2,oL 28 1 27,oO 29 .lenstr [s_ 28],oB 30 .lss 26 29,oI 31 30,oG 31 (oI 32 5),oG 31 (oF 33 2 3),oG 31 (oL 34 1 33),oG 31 (oO 35 .lenstr [s_ 34]),oG 31 (oB 36 .lss 32 35),oP 37 31 36] (oE 37 0)) (.seq (.block 1 (oR [oF 40 2 2,oK 2 (oL 41 1 40),oI 42 5,oO 43 .ixstr [s_ 41,s_ 42],oF 44 2 3,oK 3 (oL 45 1 44),oI 46 5,oO 47 .ixstr [s_ 45,s_ 46],oB 48 .neq 43 47] (oT 48 (.seq (oR [oF 49 2 2,oK 2 (oL 50 1 49),oI 51 5,oO 52 .ixstr [s_ 50,s_ 51],oF 53 2 3,oK 3 (oL 54 1 53),oI 55 5,oO 56 .ixstr [s_ 54,s_ 55],oB 57 .lss 52 56] (oT 57 (oR [oV 4 (.int .i64 (-1))] .ret))) (oR [oV 4 (n_ 1)] .ret))))) (.region [oI 38 5,oC 39 .add 38 1,oI 5 39]))
def zye:ICode:=oR [oO 2 .boxL [s_ 0],oO 3 .boxL [s_ 1],oV 4 (n_ 0)] (.seq (oR [oF 6 0 2,oL 7 1 6,oF 8 0 3,oL 9 1 8,oB 10 .neq 7 9] (oT 10 (.seq (oR [oF 11 0 2,oL 12 1 11,oF 13 0 3,oL 14 1 13,oB 15 .lss 12 14] (oT 15 (oR [oV 4 (.int .i64 (-1))] .ret))) (oR [oV 4 (n_ 1)] .ret)))) (.seq (oR [oF 16 1 2,oL 17 1 16,oF 18 1 3,oL 19 1 18,oB 20 .neq 17 19] (oT 20 (.seq (oR [oF 21 1 2,oL 22 1 21,oF 23 1 3,oL 24 1 23,oB 25 .lss 22 24] (oT 25 (oR [oV 4 (.int .i64 (-1))] .ret))) (oR [oV 4 (n_ 1)] .ret)))) (.seq (oR [oV 5 (n_ 0)] (.block 0 (.loop zik))) (.seq (oR [oF 58 2 2,oL 59 1 58,oO 60 .lenstr [s_ 59],oF 61 2 3,oL 62 1 61,oO 63 .lenstr [s_ 62],oB 64 .lss 60 63] (oT 64 (oR [oV 4 (.int .i64 (-1))] .ret))) (.seq (oR [oF 65 2 2,oL 66 1 65,oO 67 .lenstr [s_ 66],oF 68 2 3,oL 69 1 68,oO 70 .lenstr [s_ 69],oB 71 .gtr 67 70] (oT 71 (oR [oV 4 (n_ 1)] .ret))) (oR [oV 4 (n_ 0)] .ret))))))
def zn1:IFun:=⟨72,[.slot 4],zye,6,0,zaW⟩
theorem zd1:zaX Tryz.prog [1048578,1048579] 0 zqJ=some zn1:=by kernel_rfl
def zDy:ICode:=oR [oO 3 .boxL [s_ 1],oV 4 (.bool false)] (oR [oI 5 0,oM 6 5 3,oO 7 (.call zqI) [s_ 5,s_ 6],oO 8 .lensl [s_ 7],oC 9 .gtr 8 0,oI 4 9] .ret)
def ztW:IFun:=⟨10,[.slot 4],zDy,6,1,zaW⟩
theorem zfU:zaX Tryz.prog [1048579] 1 zs6=some ztW:=by kernel_rfl
def zH0:ICode:=oR [oO 3 (.boxH 9) [s_ 1],oV 4 (n_ 0)] (oR [oI 5 0,oO 6 (.mkfunc zCY 0) [s_ 3],oO 7 (.call zqL) [s_ 5,s_ 6],oI 4 7] .ret)
def zDz:IFun:=⟨8,[.slot 4],zH0,6,0,zaW⟩
theorem zil:zaX Tryz.prog [3] 0 zCl=some zDz:=by kernel_rfl
def zDA:ICode:=oR [oV 2 (.bool false)] (oR [oI 6 0,oO 7 (.build [n_ 0,n_ 0,.str ⟨#[]⟩] [(0,1),(2,1)]) [.val (n_ 1),s_ 6],oO 8 (.call zx0) [s_ 7],oI 5 8,oO 9 (.extract 0) [s_ 5],oO 10 (.extract 1) [s_ 5],oI 3 9,oI 4 10] (oR [oI 11 4,oI 2 11] .ret))
def ztX:IFun:=⟨12,[.slot 2],zDA,6,0,zaW⟩
theorem zfD:zaX Tryz.prog [] 0 znO=some ztX:=by kernel_rfl
def zl5:ICode:=.seq (oR [oI 8 6,oI 9 0,oO 10 .lenstr [s_ 9],oB 11 .lss 8 10] (oE 11 0)) (.seq (.block 1 (oR [oI 14 0,oI 15 6,oO 16 .ixstr [s_ 14,s_ 15],oI 17 1,oB 18 .eql 16 17] (.cond (s_ 18) (.region [oI 19 5,oO 20 (.buildSl 1 1 (.str ⟨#[]⟩) [0]) [.val (.str ⟨#[]⟩)],oO 21 (.append 9 1 16) [s_ 19,s_ 20],oI 5 21]) (.region [oI 22 5,oI 23 5,oO 24 .lensl [s_ 23],oC 25 .sub 24 1,oI 26 5,oI 27 5,oO 28 .lensl [s_ 27],oC 29 .sub 28 1,oX 30 1 26 29,⟨some 31,none,.load 1 false,[s_ 30],(some (.heap))⟩,oI 32 0,oI 33 6,oI 34 6,oC 35 .add 34 1,oO 36 (.slstr true true) [s_ 32,s_ 33,s_ 35],oB 37 .add 31 36,oX 38 1 22 25,⟨none,none,.store 1,[s_ 38,s_ 37],(some (.heap))⟩])))) (.region [oI 12 6,oC 13 .add 12 1,oI 6 13]))
def zDB:ICode:=oR [oV 4 .nilsl] (oR [oO 7 (.buildR 9 1 1 (.str ⟨#[]⟩) [0]) [.val (.str ⟨#[]⟩)],oI 5 7] (.seq (oR [oV 6 (n_ 0)] (.block 0 (.loop zl5))) (oR [oI 39 5,oI 4 39] .ret)))
def ztY:IFun:=⟨40,[.slot 4],zDB,6,0,zaW⟩
theorem zeM:zaX Tryz.prog [7,3145758,3145766] 0 zs7=some ztY:=by kernel_rfl
def zl6:ICode:=oR [oO 1 .boxL [s_ 0],oV 2 (.bool false)] (.seq (oR [oF 5 1 1,oM 6 5 5,oO 7 (.call zx1) [s_ 6],oO 8 (.un .not) [s_ 7]] (oT 8 (oR [oV 2 (.bool false)] .ret))) (oR [oF 9 1 1,oF 10 0 9,oL 11 1 10,oC 12 .geq 11 4,oI 3 12] (oR [oF 13 6 1,oM 14 3 13,oO 15 (.build [n_ 0,n_ 0,.str ⟨#[]⟩] []) [],oO 16 (.eqv false [(.int .i64),(.int .i64),.str]) [s_ 14,s_ 15],oI 4 16] (.seq (oR [oF 17 0 1,oL 18 1 17] (.block 0 (.seq (oR [oC 20 .eql 18 1,oI 19 20] (.cond (s_ 19) .skip (.region [oC 21 .eql 18 2,oI 19 21]))) (.cond (s_ 19) (oR [oI 22 3,oO 23 (.un .not) [s_ 22],oI 24 23,oG 24 (oI 25 4),oP 26 24 25,oI 2 26] .ret) (oR [oC 28 .eql 18 3,oI 27 28] (.cond (s_ 27) (oR [oI 29 3,oI 30 29,oG 30 (oF 31 6 1),oG 30 (oF 32 0 31),oG 30 (oL 33 1 32),oG 30 (oC 34 .geq 33 1),oP 35 30 34,oI 36 35,oG 36 (oF 37 6 1),oG 36 (oF 38 0 37),oG 36 (oL 39 1 38),oG 36 (oC 40 .leq 39 3),oP 41 36 40,oI 42 41,oG 42 (oF 43 6 1),oG 42 (oM 44 3 43),oG 42 (oO 45 (.call zlU) [s_ 44]),oP 46 42 45,oI 2 46] .ret) (oR [oC 48 .eql 18 4,oI 47 48] (oT 47 (oR [oI 49 3,oI 50 49,oG 50 (oI 51 4),oP 52 50 51,oI 2 52] .ret))))))))) (oR [oV 2 (.bool false)] .ret)))))
def zim:IFun:=⟨53,[.slot 2],zl6,6,0,zaW⟩
theorem zer:zaX Tryz.prog [1048577] 0 zxQ=some zim:=by kernel_rfl
def ztZ:ICode:=oR [oO 2 .boxL [s_ 0],oO 3 .boxL [s_ 1],oV 4 (.bool false)] (oR [oK 3 (oM 5 2 3),oO 6 (.call zlX) [s_ 5],oI 7 6,oG 7 (oF 8 0 3),oK 3 (oG 7 (oL 9 1 8)),oG 7 (oO 10 (.ixaddrA 16 1) [s_ 2,s_ 9]),oK 2 (oG 7 (oL 11 1 10)),oG 7 (oF 12 1 3),oK 3 (oG 7 (oL 13 1 12)),oG 7 (oC 14 .sub 13 1),oG 7 (oB 15 .eql 11 14),oP 16 7 15,oI 4 16] .ret)
def zj4:IFun:=⟨17,[.slot 4],ztZ,6,0,zaW⟩
theorem zkQ:zaX Tryz.prog [1048578,1048579] 0 zpu=some zj4:=by kernel_rfl
def zAM:ICode:=oR [oC 7 .lss 6 16] (.seq (oE 7 0) (.seq (.block 1 (oR [oO 8 (.ixarr 16 1 false) [s_ 5,s_ 6],oI 4 8] (oR [oI 9 4,oC 10 .lss 9 0,oI 11 10,oH 11 (oI 12 4),oH 11 (oC 13 .gtr 12 1048576),oQ 14 11 13] (oT 14 (oR [oV 2 (.bool false)] .ret))))) (.region [oC 15 .add 6 1,oI 6 15])))
def zz7:ICode:=oR [oO 1 .boxL [s_ 0],oV 2 (.bool false)] (.seq (oR [oM 5 16 1,oV 6 (n_ 0)] (.block 0 (.loop zAM))) (oR [oV 2 (.bool true)] .ret))
def zl7:IFun:=⟨16,[.slot 2],zz7,6,0,zaW⟩
theorem zjy:zaX Tryz.prog [1048577] 0 zpv=some zl7:=by kernel_rfl
def zDC:ICode:=oR [oO 1 .boxL [s_ 0],oV 2 (n_ 0)] (.seq (oR [oM 3 9 1,oO 4 (.call zx2) [s_ 3],oO 5 (.un .not) [s_ 4]] (oT 5 (oR [oV 2 (n_ 1)] .ret))) (oR [oV 2 (n_ 0)] .ret))
def zt0:IFun:=⟨6,[.slot 2],zDC,6,0,zaW⟩
theorem zjz:zaX Tryz.prog [1048577] 0 zxR=some zt0:=by kernel_rfl
def zDD:ICode:=oR [oO 1 .boxL [s_ 0],oO 2 (.allocL [n_ 0,n_ 0,.str ⟨#[]⟩,.str ⟨#[]⟩,.str ⟨#[]⟩,.str ⟨#[]⟩,n_ 0,n_ 0,.str ⟨#[]⟩]) []] (oR [oF 3 18 1,oL 4 1 3,oF 5 19 1,oM 6 5 5,oF 7 24 1,oM 8 3 7,oO 9 (.build [n_ 0,n_ 0,.str ⟨#[]⟩,.str ⟨#[]⟩,.str ⟨#[]⟩,.str ⟨#[]⟩,n_ 0,n_ 0,.str ⟨#[]⟩] [(0,1),(1,5),(6,3)]) [s_ 4,s_ 6,s_ 8],oS 9 2 9] .ret)
def zt1:IFun:=⟨10,[.cell 2 9 true],zDD,6,0,zaW⟩
theorem zqU:zaX Tryz.prog [1048577,1048578] 0 zxS=some zt1:=by kernel_rfl
def zt2:ICode:=oR [oB 9 .lss 8 7] (.seq (oE 9 0) (.seq (.block 1 (oR [oI 10 8,oI 5 10] (oR [oI 11 1,oI 12 0,oI 13 5,oX 14 5 12 13,oM 15 5 14,oO 16 .callv [s_ 11,s_ 15]] (oT 16 (oR [oI 17 5,oI 4 17] .ret))))) (.region [oC 18 .add 8 1,oI 8 18])))
def zAN:ICode:=oR [oV 4 (n_ 0)] (.seq (oR [oI 6 0,oO 7 .lensl [s_ 6],oV 8 (n_ 0)] (.block 0 (.loop zt2))) (oR [oV 4 (.int .i64 (-1))] .ret))
def zn2:IFun:=⟨19,[.slot 4],zAN,6,0,zaW⟩
theorem zbO:zaX Tryz.prog [] 0 zqK=some zn2:=by kernel_rfl
def zpB:ICode:=oR [oO 1 .boxL [s_ 0],oV 2 (.bool false)] (oR [oF 3 0 1,oL 4 1 3,oC 5 .geq 4 0,oI 6 5,oG 6 (oF 7 0 1),oG 6 (oL 8 1 7),oG 6 (oC 9 .lss 8 16),oP 10 6 9,oI 11 10,oG 11 (oF 12 1 1),oG 11 (oL 13 1 12),oG 11 (oC 14 .geq 13 1),oP 15 11 14,oI 16 15,oG 16 (oF 17 1 1),oG 16 (oL 18 1 17),oG 16 (oC 19 .leq 18 1048576),oP 20 16 19,oI 2 20] .ret)
def zin:IFun:=⟨21,[.slot 2],zpB,6,0,zaW⟩
theorem zl8:zaX Tryz.prog [1048577] 0 zlX=some zin:=by kernel_rfl
def L0_x2:ICode:=oR [oB 9 .lss 8 7] (.seq (oE 9 0) (.seq (.block 1 (oR [oX 10 1 6 8,oL 11 1 10,oI 5 11] (oR [oI 12 5,oI 13 3,oB 14 .neq 12 13] (oT 14 (oR [oI 15 5,oI 2 15] .ret))))) (.region [oC 16 .add 8 1,oI 8 16])))
def b_x2:ICode:=oR [oV 2 (n_ 0)] (oR [oV 3 (n_ 0)] (.seq (oR [oI 6 0,oO 7 .lensl [s_ 6],oV 8 (n_ 0)] (.block 0 (.loop L0_x2))) (oR [oI 17 3,oI 2 17] .ret)))
def F_x2:IFun:=⟨18,[.slot 2],b_x2,6,0,zaW⟩
theorem c_cmp_Orint:zaX Tryz.prog [] 0 f_x2=some F_x2:=by kernel_rfl
def b_x0:ICode:=oR [oV 4 (n_ 0)] (oR [oI 7 0,oO 8 (.call f_x3) [s_ 7],oI 5 8] (oR [oI 9 1,oO 10 (.call f_x3) [s_ 9],oI 6 10] (.seq (oR [oI 11 5] (oT 11 (.seq (oR [oI 12 6] (oT 12 (oR [oV 4 (n_ 0)] .ret))) (oR [oV 4 (.int .i64 (-1))] .ret)))) (.seq (oR [oI 13 6] (oT 13 (oR [oV 4 (n_ 1)] .ret))) (.seq (oR [oI 14 0,oI 15 1,oB 16 .lss 14 15] (oT 16 (oR [oV 4 (.int .i64 (-1))] .ret))) (.seq (oR [oI 17 0,oI 18 1,oB 19 .gtr 17 18] (oT 19 (oR [oV 4 (n_ 1)] .ret))) (oR [oV 4 (n_ 0)] .ret)))))))
def F_x0:IFun:=⟨20,[.slot 4],b_x0,6,0,zaW⟩
theorem c_cmp_Compareint:zaX Tryz.prog [] 0 f_x0=some F_x0:=by kernel_rfl
def zt3:ICode:=oR [oO 3 .boxL [s_ 1],oO 4 .freeze [.val .nilsl]] (.seq (oR [oI 5 0,oO 6 (.eq1 false .ptr) [s_ 5,.val .nilptr]] (oT 6 (oR [oO 4 .freeze [.val .nilsl]] .ret))) (oR [oI 7 0,oO 8 .nilchk [s_ 7],oF 9 0 8,⟨some 10,none,.load 1 false,[s_ 9],(some (.heap))⟩,oK 3 (oM 11 5 3),oO 12 (.mlook true [(.int .i64),.str,.str,.str,.str] .nilsl false) [s_ 10,s_ 11],oO 13 (.call zjr) [s_ 12],oO 4 .freeze [s_ 13]] .ret))
def zio:IFun:=⟨14,[.slot 4],zt3,6,0,zaW⟩
theorem zeN:zaX Tryz.prog [1048579,8388612] 0 zjX=some zio:=by kernel_rfl
def zDE:IFun:=⟨8,[],.trap,0,30,zk1⟩
def b_x97:ICode:=oR [oO 2 .boxL [s_ 0],oO 3 .boxL [s_ 1],oV 4 (n_ 0)] (oR [oF 5 0 2,oM 6 5 5,oF 7 0 3,oM 8 5 7,oO 9 (.call f_x95) [s_ 6,s_ 8],oI 4 9] .ret)
def F_x97:IFun:=⟨10,[.slot 4],b_x97,6,0,zaW⟩
theorem c_store_Store_All_1:zaX Tryz.prog [1048578,1048579] 0 f_x97=some F_x97:=by kernel_rfl
def b_x95:ICode:=oR [oO 2 .boxL [s_ 0],oO 3 .boxL [s_ 1],oV 4 (n_ 0)] (oR [oF 5 0 2,oK 2 (oL 6 1 5),oF 7 0 3,oK 3 (oL 8 1 7),oO 9 (.call f_x0) [s_ 6,s_ 8],oF 10 1 2,oK 2 (oL 11 1 10),oF 12 1 3,oK 3 (oL 13 1 12),oO 14 (.call f_x1) [s_ 11,s_ 13],oF 15 2 2,oK 2 (oL 16 1 15),oF 17 2 3,oK 3 (oL 18 1 17),oO 19 (.call f_x1) [s_ 16,s_ 18],oF 20 3 2,oK 2 (oL 21 1 20),oF 22 3 3,oK 3 (oL 23 1 22),oO 24 (.call f_x1) [s_ 21,s_ 23],oF 25 4 2,oK 2 (oL 26 1 25),oF 27 4 3,oK 3 (oL 28 1 27),oO 29 (.call f_x1) [s_ 26,s_ 28],oO 30 (.buildSl 1 5 (n_ 0) [0,1,2,3,4]) [s_ 9,s_ 14,s_ 19,s_ 24,s_ 29],oO 31 (.call f_x2) [s_ 30],oI 4 31] .ret)
def F_x95:IFun:=⟨32,[.slot 4],b_x95,6,0,zaW⟩
theorem c_store_Order:zaX Tryz.prog [1048578,1048579] 0 f_x95=some F_x95:=by kernel_rfl
def zDF:ICode:=oR [oO 1 .boxL [s_ 0],oO 2 (.allocL [.str ⟨#[]⟩,.str ⟨#[]⟩,.str ⟨#[]⟩]) []] (oR [oF 3 1 1,oL 4 1 3,oF 5 2 1,oL 6 1 5,oF 7 3 1,oL 8 1 7,oO 9 (.build [.str ⟨#[]⟩,.str ⟨#[]⟩,.str ⟨#[]⟩] [(0,1),(1,1),(2,1)]) [s_ 4,s_ 6,s_ 8],oS 3 2 9] .ret)
def zt4:IFun:=⟨10,[.cell 2 3 true],zDF,6,1,zaW⟩
theorem zl9:zaX Tryz.prog [1048577,1048578] 1 zs8=some zt4:=by kernel_rfl
def zAO:ICode:=oR [oO 1 .boxL [s_ 0],oO 2 (.allocL [n_ 0,.str ⟨#[]⟩,.str ⟨#[]⟩,.str ⟨#[]⟩,.str ⟨#[]⟩]) []] (.seq (oR [oF 3 0 1,oL 4 1 3,oC 5 .eql 4 5] (oT 5 (oR [oM 6 5 1,oO 7 (.call zs8) [s_ 6],oO 8 (.call zxM) [s_ 7],oS 5 2 8] .ret))) (oR [oF 9 1 1,oL 10 1 9,oO 11 (.call znN) [s_ 10],oS 5 2 11] .ret))
def zqV:IFun:=⟨12,[.cell 2 5 true],zAO,6,1,zaW⟩
theorem zkR:zaX Tryz.prog [1048577,1048578,2097262,2097230,2097229] 1 zxU=some zqV:=by kernel_rfl
def zn3:ICode:=oR [oB 13 .lss 12 11] (.seq (oE 13 0) (.seq (.block 1 (oR [oX 14 5 10 12,oM 15 5 14,oO 7 (.allocL [n_ 0,n_ 0,n_ 0,n_ 0,.str ⟨#[]⟩]) [],oS 5 7 15] (.region [oI 16 5,oF 17 2 7,oM 18 3 17,oO 19 (.buildSl 3 1 (.agg [n_ 0,n_ 0,.str ⟨#[]⟩]) [0]) [s_ 18],oO 20 (.appendN 34 3 32) [s_ 16,s_ 19],oI 5 20]))) (.region [oC 21 .add 12 1,oI 12 21])))
def zz8:ICode:=oR [oO 3 .boxL [s_ 1],oO 4 .freeze [.val .nilsl]] (oR [oV 5 .nilsl] (.seq (oR [oI 8 0,oM 9 5 3,oO 10 (.call zjX) [s_ 8,s_ 9],oO 11 .lensl [s_ 10],oV 12 (n_ 0)] (.block 0 (.loop zn3))) (oR [oI 22 5,oO 23 (.call zx3) [s_ 22,.val (.func 141 [] [])]] (oR [oI 24 5,oO 25 (.call zqM) [s_ 24],oO 4 .freeze [s_ 25]] .ret))))
def zma:IFun:=⟨26,[.slot 4],zz8,6,1,zaW⟩
theorem zfE:zaX Tryz.prog [1048579,1048583,16777236,8388612] 1 zlY=some zma:=by kernel_rfl
def b_x1:ICode:=oR [oV 4 (n_ 0)] (oR [oI 7 0,oO 8 (.call f_x4) [s_ 7],oI 5 8] (oR [oI 9 1,oO 10 (.call f_x4) [s_ 9],oI 6 10] (.seq (oR [oI 11 5] (oT 11 (.seq (oR [oI 12 6] (oT 12 (oR [oV 4 (n_ 0)] .ret))) (oR [oV 4 (.int .i64 (-1))] .ret)))) (.seq (oR [oI 13 6] (oT 13 (oR [oV 4 (n_ 1)] .ret))) (.seq (oR [oI 14 0,oI 15 1,oB 16 .lss 14 15] (oT 16 (oR [oV 4 (.int .i64 (-1))] .ret))) (.seq (oR [oI 17 0,oI 18 1,oB 19 .gtr 17 18] (oT 19 (oR [oV 4 (n_ 1)] .ret))) (oR [oV 4 (n_ 0)] .ret)))))))
def F_x1:IFun:=⟨20,[.slot 4],b_x1,6,0,zaW⟩
theorem c_cmp_Comparestring:zaX Tryz.prog [] 0 f_x1=some F_x1:=by kernel_rfl
def zfV:ICode:=oR [oO 7 .next [s_ 6],oO 8 (.extract 0) [s_ 7]] (.seq (oE 8 0) (.block 1 (oR [oO 9 (.extract 2) [s_ 7],oI 4 9] (oR [oI 10 4,oO 11 (.bin .lss) [s_ 10,.val (.int .i32 32)],oI 12 11,oH 12 (oI 13 4),oH 12 (oO 14 (.bin .gtr) [s_ 13,.val (.int .i32 126)]),oQ 15 12 14] (oT 15 (oR [oV 2 (.bool false)] .ret))))))
def zz9:ICode:=oR [oV 2 (.bool false)] (.seq (oR [oI 5 0,oO 6 .range [s_ 5]] (.block 0 (.loop zfV))) (oR [oI 16 0,oO 17 .lenstr [s_ 16],oC 18 .leq 17 64,oI 2 18] .ret))
def zmb:IFun:=⟨19,[.slot 2],zz9,6,0,zaW⟩
theorem zkS:zaX Tryz.prog [] 0 zpw=some zmb:=by kernel_rfl
def ziq:ICode:=oR [oB 20 .lss 19 18] (.seq (oE 20 0) (.seq (.block 1 (oR [oI 21 19,oI 3 21] (oR [oI 22 0,oI 23 3,oO 24 .ixstr [s_ 22,s_ 23],oO 25 (.call zpx) [s_ 24],oO 26 (.un .not) [s_ 25]] (oT 26 (oR [oV 2 (.bool false)] .ret))))) (.region [oC 27 .add 19 1,oI 19 27])))
def zmc:ICode:=oR [oV 2 (.bool false)] (.seq (oR [oI 4 0,oO 5 (.bin .eql) [s_ 4,.val (.str ⟨#[]⟩)],oI 6 5,oH 6 (oI 7 0),oH 6 (oO 8 .lenstr [s_ 7]),oH 6 (oC 9 .gtr 8 16),oQ 10 6 9,oI 11 10,oH 11 (oI 12 0),oH 11 (oO 13 .ixstr [s_ 12,.val (n_ 0)]),oH 11 (oO 14 (.call zlZ) [s_ 13]),oH 11 (oO 15 (.un .not) [s_ 14]),oQ 16 11 15] (oT 16 (oR [oV 2 (.bool false)] .ret))) (.seq (oR [oI 17 0,oO 18 .lenstr [s_ 17],oV 19 (n_ 0)] (.block 0 (.loop ziq))) (oR [oV 2 (.bool true)] .ret)))
def zhC:IFun:=⟨28,[.slot 2],zmc,6,0,zaW⟩
theorem zmd:zaX Tryz.prog [] 0 zij=some zhC:=by kernel_rfl
def zeO:ICode:=oR [oO 1 .boxL [s_ 0],oO 2 (.allocL [.str ⟨#[]⟩,.str ⟨#[]⟩,.str ⟨#[]⟩]) [],oV 3 (.bool false)] (oR [oF 5 2 1,oL 6 1 5,oO 7 (.call zta) [s_ 6,.val (.str ⟨#[62]⟩)],oI 4 7] (.seq (oR [oF 8 0 1,oL 9 1 8,oC 10 .neq 9 5,oI 11 10,oH 11 (oF 12 1 1),oH 11 (oL 13 1 12),oH 11 (oC 14 .neq 13 0),oQ 15 11 14,oI 16 15,oH 16 (oI 17 4),oH 16 (oO 18 .lensl [s_ 17]),oH 16 (oC 19 .neq 18 3),oQ 20 16 19,oI 21 20,oH 21 (oI 22 4),oH 21 (oO 23 (.call zdG) [s_ 22]),oH 21 (oO 24 (.un .not) [s_ 23]),oQ 25 21 24] (oT 25 (oR [oO 26 (.build [.str ⟨#[]⟩,.str ⟨#[]⟩,.str ⟨#[]⟩] []) [],oS 3 2 26,oV 3 (.bool false)] .ret))) (oR [oI 27 4,oO 28 (.ixaddr 1) [s_ 27,.val (n_ 0)],⟨some 29,none,.load 1 false,[s_ 28],(some (.el))⟩,oI 30 4,oO 31 (.ixaddr 1) [s_ 30,.val (n_ 1)],⟨some 32,none,.load 1 false,[s_ 31],(some (.el))⟩,oI 33 4,oO 34 (.ixaddr 1) [s_ 33,.val (n_ 2)],⟨some 35,none,.load 1 false,[s_ 34],(some (.el))⟩,oO 36 (.build [.str ⟨#[]⟩,.str ⟨#[]⟩,.str ⟨#[]⟩] [(0,1),(2,1),(1,1)]) [s_ 29,s_ 32,s_ 35],oK 2 (oS 3 2 36),oV 3 (.bool true)] .ret)))
def zdi:IFun:=⟨37,[.cell 2 3 true,.slot 3],zeO,6,0,zaW⟩
theorem zme:zaX Tryz.prog [1048577,1048578,2097308] 0 zgl=some zdi:=by kernel_rfl
def zDG:ICode:=oR [oO 2 .boxL [s_ 0],oV 4 (.bool false)] (oR [oF 7 0 2,oL 8 1 7,oO 9 (.build [n_ 0,n_ 0,n_ 0,.str ⟨#[]⟩,.str ⟨#[]⟩,.str ⟨#[]⟩,n_ 0,n_ 0] [(0,1)]) [s_ 8],oO 5 (.allocL [n_ 0,n_ 0,n_ 0,.str ⟨#[]⟩,.str ⟨#[]⟩,.str ⟨#[]⟩,n_ 0,n_ 0]) [],oS 8 5 9] (oR [oV 6 (.bool true)] (.seq (.block 0 (oR [oF 11 0 2,oL 12 1 11,oC 13 .eql 12 1,oI 10 13] (.cond (s_ 10) (oR [oF 14 1 2,oM 15 3 14,oF 16 1 5,oS 3 16 15] (.region [oF 17 1 2,oM 18 3 17,oO 19 (.call zii) [s_ 18],oI 20 19,oG 20 (oF 21 1 2),oG 20 (oF 22 0 21),oG 20 (oL 23 1 22),oG 20 (oC 24 .neq 23 5),oP 25 20 24,oI 26 25,oG 26 (oF 27 1 2),oG 26 (oF 28 0 27),oG 26 (oL 29 1 28),oG 26 (oC 30 .neq 29 4),oG 26 (oI 31 30),oH 31 (oF 32 1 2),oH 31 (oF 33 2 32),oH 31 (oL 34 1 33),oH 31 (oO 35 (.call znQ) [s_ 34]),oG 26 (oQ 36 31 35),oP 37 26 36,oI 6 37])) (oR [oF 39 0 2,oL 40 1 39,oC 41 .eql 40 2,oI 38 41] (.cond (s_ 38) (oR [oF 42 4 2,oL 43 1 42,oF 44 4 5,oS 1 44 43] (.region [oF 45 4 2,oL 46 1 45,oO 47 (.call znQ) [s_ 46],oI 6 47])) (oR [oF 49 0 2,oL 50 1 49,oC 51 .eql 50 3,oI 52 51,oH 52 (oF 53 0 2),oH 52 (oL 54 1 53),oH 52 (oC 55 .eql 54 4),oQ 56 52 55,oI 48 56] (.cond (s_ 48) (oR [oF 57 4 2,oK 2 (oL 58 1 57),oF 59 5 2,oK 2 (oL 60 1 59),oF 61 4 5,oK 5 (oS 1 61 58),oF 62 5 5,oK 5 (oS 1 62 60)] (.region [oF 63 4 2,oL 64 1 63,oO 65 (.call znQ) [s_ 64],oI 66 65,oG 66 (oF 67 5 2),oG 66 (oL 68 1 67),oG 66 (oO 69 (.call znQ) [s_ 68]),oP 70 66 69,oI 6 70])) (oR [oF 72 0 2,oL 73 1 72,oC 74 .geq 73 5,oI 75 74,oG 75 (oF 76 0 2),oG 75 (oL 77 1 76),oG 75 (oC 78 .leq 77 7),oP 79 75 78,oI 71 79] (.cond (s_ 71) (oR [oF 80 6 2,oL 81 1 80,oF 82 6 5,oS 1 82 81] (.region [oF 83 6 2,oL 84 1 83,oC 85 .geq 84 0,oI 86 85,oG 86 (oF 87 6 2),oG 86 (oL 88 1 87),oG 86 (oI 89 1),oG 86 (oB 90 .lss 88 89),oP 91 86 90,oI 6 91])) (oR [oF 93 0 2,oL 94 1 93,oC 95 .geq 94 8,oI 96 95,oG 96 (oF 97 0 2),oG 96 (oL 98 1 97),oG 96 (oC 99 .leq 98 18),oP 100 96 99,oI 92 100] (.cond (s_ 92) (oR [oF 101 6 2,oK 2 (oL 102 1 101),oF 103 7 2,oK 2 (oL 104 1 103),oF 105 6 5,oK 5 (oS 1 105 102),oF 106 7 5,oK 5 (oS 1 106 104)] (.region [oF 107 6 2,oL 108 1 107,oF 109 7 2,oL 110 1 109,oO 111 (.minmax false) [s_ 108,s_ 110],oC 112 .geq 111 0,oI 113 112,oG 113 (oF 114 6 2),oG 113 (oL 115 1 114),oG 113 (oF 116 7 2),oG 113 (oL 117 1 116),oG 113 (oO 118 (.minmax true) [s_ 115,s_ 117]),oG 113 (oI 119 1),oG 113 (oB 120 .lss 118 119),oP 121 113 120,oI 6 121])) (.region [oV 6 (.bool false)])))))))))))) (oR [oI 122 6,oI 123 122,oG 123 (oM 124 8 2),oG 123 (oM 125 8 5),oG 123 (oO 126 (.eqv false [(.int .i64),(.int .i64),(.int .i64),.str,.str,.str,(.int .i64),(.int .i64)]) [s_ 124,s_ 125]),oP 127 123 126,oI 4 127] .ret))))
def zt5:IFun:=⟨128,[.slot 4],zDG,6,0,zaW⟩
theorem zqW:zaX Tryz.prog [1048578,1048581] 0 zxV=some zt5:=by kernel_rfl
def zAa:ICode:=oR [oB 9 .lss 8 7] (.seq (oE 9 0) (.seq (.block 1 (oR [oI 10 8,oI 5 10] (oR [oI 11 1,oI 12 0,oI 13 5,oX 14 4 12 13,oM 15 4 14,oO 16 .callv [s_ 11,s_ 15]] (oT 16 (oR [oI 17 5,oI 4 17] .ret))))) (.region [oC 18 .add 8 1,oI 8 18])))
def zDH:ICode:=oR [oV 4 (n_ 0)] (.seq (oR [oI 6 0,oO 7 .lensl [s_ 6],oV 8 (n_ 0)] (.block 0 (.loop zAa))) (oR [oV 4 (.int .i64 (-1))] .ret))
def zt6:IFun:=⟨19,[.slot 4],zDH,6,0,zaW⟩
theorem zcf:zaX Tryz.prog [] 0 zqL=some zt6:=by kernel_rfl
def zDI:ICode:=oR [oO 3 .boxL [s_ 1],oO 4 (.allocL [n_ 0,n_ 0,.str ⟨#[]⟩]) []] (.seq (oR [oF 6 0 3,oL 7 1 6] (.block 0 (oR [oC 9 .eql 7 1,oI 8 9] (.cond (s_ 8) (oR [oF 10 1 3,oM 11 3 10,oS 3 4 11] .ret) (oR [oC 13 .eql 7 2,oI 12 13] (.cond (s_ 12) (oR [oI 14 0,oO 15 .nilchk [s_ 14],oF 16 1 15,⟨some 17,none,.load 1 false,[s_ 16],(some (.heap))⟩,oF 18 4 3,oK 3 (oL 19 1 18),oO 20 (.call zAG) [s_ 17,s_ 19],oK 4 (oS 3 4 20)] .ret) (oR [oC 22 .eql 7 4,oI 21 22] (oT 21 (oR [oI 23 0,oM 24 8 3,oO 25 (.call zqN) [s_ 23,s_ 24],oO 26 .lensl [s_ 25],oO 27 (.call znR) [s_ 26],oS 3 4 27] .ret))))))))) (.seq (oR [oI 28 0,oM 29 8 3,oO 30 (.call zqN) [s_ 28,s_ 29],oI 5 30] (oR [oI 31 5,oO 32 .lensl [s_ 31],oC 33 .gtr 32 0] (oT 33 (oR [oI 34 5,oI 35 5,oO 36 .lensl [s_ 35],oC 37 .sub 36 1,oX 38 3 34 37,oM 39 3 38,oS 3 4 39] .ret)))) (oR [oO 40 (.build [n_ 0,n_ 0,.str ⟨#[]⟩] []) [],oS 3 4 40] .ret)))
def zt7:IFun:=⟨41,[.cell 4 3 true],zDI,6,1,zaW⟩
theorem zfF:zaX Tryz.prog [1048579,1048580,2097312] 1 znP=some zt7:=by kernel_rfl
def zt8:ICode:=oR [oO 3 .boxL [s_ 1],oO 4 (.allocL [n_ 0,n_ 0,.str ⟨#[]⟩]) []] (oR [oM 6 3 3,oO 7 (.build [n_ 0,n_ 0,.str ⟨#[]⟩] []) [],oO 8 (.eqv false [(.int .i64),(.int .i64),.str]) [s_ 6,s_ 7],oI 5 8] (.seq (.block 0 (oR [oI 10 0,oC 11 .eql 10 6,oI 9 11] (.cond (s_ 9) (oR [oI 12 5,oO 13 (.call zgk) [s_ 12],oS 3 4 13] .ret) (oR [oI 15 0,oC 16 .eql 15 7,oI 14 16] (.cond (s_ 14) (oR [oI 17 5,oO 18 (.un .not) [s_ 17],oO 19 (.call zgk) [s_ 18],oS 3 4 19] .ret) (oR [oF 21 0 3,oL 22 1 21,oC 23 .neq 22 1,oI 20 23] (oT 20 (oR [oO 24 (.build [n_ 0,n_ 0,.str ⟨#[]⟩] []) [],oS 3 4 24] .ret)))))))) (oR [oF 25 1 3,oL 26 1 25,oC 27 .eql 26 0,oO 28 (.call zgk) [s_ 27],oS 3 4 28] .ret)))
def zmf:IFun:=⟨29,[.cell 4 3 true],zt8,6,0,zaW⟩
theorem zqX:zaX Tryz.prog [1048579,1048580] 0 zxW=some zmf:=by kernel_rfl
def zqY:ICode:=oR [oO 3 .boxL [s_ 0],oO 4 .boxL [s_ 1],oO 6 (.allocL [n_ 0,n_ 0,.str ⟨#[]⟩]) []] (oR [oI 9 2,oO 10 (.call zgk) [s_ 9],oI 11 2,oO 12 (.un .not) [s_ 11],oO 13 (.call zgk) [s_ 12],oO 7 (.allocL [n_ 0,n_ 0,.str ⟨#[]⟩]) [],oO 8 (.allocL [n_ 0,n_ 0,.str ⟨#[]⟩]) [],oS 3 7 10,oS 3 8 13] (.seq (.block 0 (oR [oM 15 3 3,oM 16 3 7,oO 17 (.eqv false [(.int .i64),(.int .i64),.str]) [s_ 15,s_ 16],oI 18 17,oH 18 (oM 19 3 4),oH 18 (oM 20 3 7),oH 18 (oO 21 (.eqv false [(.int .i64),(.int .i64),.str]) [s_ 19,s_ 20]),oQ 22 18 21,oI 14 22] (.cond (s_ 14) (oR [oM 23 3 7,oS 3 6 23] .ret) (oR [oM 25 3 3,oM 26 3 8,oO 27 (.eqv false [(.int .i64),(.int .i64),.str]) [s_ 25,s_ 26],oI 28 27,oG 28 (oM 29 3 4),oG 28 (oM 30 3 8),oG 28 (oO 31 (.eqv false [(.int .i64),(.int .i64),.str]) [s_ 29,s_ 30]),oP 32 28 31,oI 24 32] (oT 24 (oR [oM 33 3 8,oS 3 6 33] .ret)))))) (oR [oO 34 (.build [n_ 0,n_ 0,.str ⟨#[]⟩] []) [],oS 3 6 34] .ret)))
def zkT:IFun:=⟨35,[.cell 6 3 true],zqY,6,0,zaW⟩
theorem zmg:zaX Tryz.prog [1048579,1048580,1048582,1048583,1048584] 0 zs9=some zkT:=by kernel_rfl
def zDJ:ICode:=oR [oO 4 .boxL [s_ 1],oO 5 .boxL [s_ 2],oO 6 (.allocL [n_ 0,n_ 0,.str ⟨#[]⟩]) []] (oR [oO 10 (.build [n_ 0,n_ 0,.str ⟨#[]⟩] []) [],oO 7 (.allocL [n_ 0,n_ 0,.str ⟨#[]⟩]) [],oS 3 7 10] (oR [oI 11 0,oC 12 .eql 11 10,oI 13 12,oH 13 (oI 14 0),oH 13 (oC 15 .eql 14 11),oQ 16 13 15,oI 8 16] (.seq (.block 0 (oR [oI 18 8,oI 19 18,oG 19 (oM 20 3 4),oG 19 (oM 21 3 7),oG 19 (oO 22 (.eqv false [(.int .i64),(.int .i64),.str]) [s_ 20,s_ 21]),oG 19 (oI 23 22),oH 23 (oM 24 3 5),oH 23 (oM 25 3 7),oH 23 (oO 26 (.eqv false [(.int .i64),(.int .i64),.str]) [s_ 24,s_ 25]),oG 19 (oQ 27 23 26),oP 28 19 27,oI 17 28] (.cond (s_ 17) (oR [oM 29 3 7,oS 3 6 29] .ret) (oR [oI 31 8,oI 30 31] (.cond (s_ 30) (oR [oM 32 3 4,oM 33 3 5,oO 34 (.eqv false [(.int .i64),(.int .i64),.str]) [s_ 32,s_ 33],oI 35 0,oC 36 .eql 35 10,oO 37 (.eq1 false .bool) [s_ 34,s_ 36],oO 38 (.call zgk) [s_ 37],oS 3 6 38] .ret) (oR [oF 40 0 4,oL 41 1 40,oF 42 0 5,oL 43 1 42,oB 44 .neq 41 43,oI 45 44,oH 45 (oF 46 0 4),oH 45 (oL 47 1 46),oH 45 (oC 48 .lss 47 1),oQ 49 45 48,oI 50 49,oH 50 (oF 51 0 4),oH 50 (oL 52 1 51),oH 50 (oC 53 .gtr 52 3),oQ 54 50 53,oI 39 54] (oT 39 (oR [oM 55 3 7,oS 3 6 55] .ret)))))))) (oR [oM 56 3 4,oM 57 3 5,oO 58 (.call f_x106) [s_ 56,s_ 57],oI 9 58] (.seq (oR [oI 59 0] (.block 1 (oR [oC 61 .eql 59 12,oI 60 61] (.cond (s_ 60) (oR [oI 62 9,oC 63 .lss 62 0,oO 64 (.call zgk) [s_ 63],oS 3 6 64] .ret) (oR [oC 66 .eql 59 13,oI 65 66] (.cond (s_ 65) (oR [oI 67 9,oC 68 .leq 67 0,oO 69 (.call zgk) [s_ 68],oS 3 6 69] .ret) (oR [oC 71 .eql 59 14,oI 70 71] (oT 70 (oR [oI 72 9,oC 73 .gtr 72 0,oO 74 (.call zgk) [s_ 73],oS 3 6 74] .ret))))))))) (oR [oI 75 9,oC 76 .geq 75 0,oO 77 (.call zgk) [s_ 76],oS 3 6 77] .ret))))))
def zt9:IFun:=⟨78,[.cell 6 3 true],zDJ,6,0,zaW⟩
theorem zir:zaX Tryz.prog [1048580,1048581,1048582,1048583] 0 zxX=some zt9:=by kernel_rfl
def zDK:ICode:=oR [oO 4 .boxL [s_ 1],oO 5 .boxL [s_ 2],oO 6 (.allocL [n_ 0,n_ 0,.str ⟨#[]⟩]) []] (.seq (.block 0 (oR [oF 8 0 4,oL 9 1 8,oC 10 .neq 9 2,oI 11 10,oH 11 (oF 12 0 5),oH 11 (oL 13 1 12),oH 11 (oC 14 .neq 13 2),oQ 15 11 14,oI 7 15] (.cond (s_ 7) (oR [oO 16 (.build [n_ 0,n_ 0,.str ⟨#[]⟩] []) [],oS 3 6 16] .ret) (oR [oI 18 0,oC 19 .eql 18 16,oI 17 19] (.cond (s_ 17) (oR [oF 20 1 4,oL 21 1 20,oF 22 1 5,oL 23 1 22,oB 24 .add 21 23,oO 25 (.call znR) [s_ 24],oS 3 6 25] .ret) (oR [oI 27 0,oC 28 .eql 27 17,oI 26 28] (oT 26 (oR [oF 29 1 4,oL 30 1 29,oF 31 1 5,oL 32 1 31,oB 33 .sub 30 32,oO 34 (.call znR) [s_ 33],oS 3 6 34] .ret)))))))) (oR [oF 35 1 4,oL 36 1 35,oF 37 1 5,oL 38 1 37,oO 39 (.call zx4) [s_ 36,s_ 38],oS 3 6 39] .ret))
def zua:IFun:=⟨40,[.cell 6 3 true],zDK,6,0,zaW⟩
theorem zis:zaX Tryz.prog [1048580,1048581,1048582] 0 zxY=some zua:=by kernel_rfl
def zDL:ICode:=oR [oO 2 .boxL [s_ 0],oO 3 .boxL [s_ 1],oV 4 (.bool false)] (oR [oF 5 0 3,oK 3 (oL 6 1 5),oO 7 (.ixaddrA 16 1) [s_ 2,s_ 6],oK 2 (oL 8 1 7),oF 9 1 3,oK 3 (oL 10 1 9),oB 11 .geq 8 10,oI 4 11] .ret)
def zub:IFun:=⟨12,[.slot 4],zDL,6,0,zaW⟩
theorem zeP:zaX Tryz.prog [1048578,1048579] 0 zxZ=some zub:=by kernel_rfl
def zH1:ICode:=oR [oO 2 .boxL [s_ 0],oV 3 (.bool false)] (oR [oF 4 0 2,oL 5 1 4,oL 6 1 1,oB 7 .eql 5 6,oI 3 7] .ret)
def zDM:IFun:=⟨8,[.slot 3],zH1,6,0,zaW⟩
theorem zhg:zaX Tryz.prog [1048578] 0 zCY=some zDM:=by kernel_rfl
def zAP:ICode:=oR [oO 1 .boxL [s_ 0],oV 2 (.str ⟨#[]⟩),oV 3 (.bool false)] (.seq (oR [oF 5 0 1,oL 6 1 5] (.block 0 (oR [oC 8 .eql 6 1,oI 7 8] (.cond (s_ 7) (oR [oF 9 2 1,oK 1 (oL 10 1 9),oF 11 1 1,oK 1 (oL 12 1 11),oC 13 .eql 12 0,oI 14 13,oG 14 (oF 15 2 1),oK 1 (oG 14 (oL 16 1 15)),oG 14 (oO 17 (.call zgj) [s_ 16]),oP 18 14 17,oI 19 18,oG 19 (oO 20 (.call ztb) []),oG 19 (oF 21 2 1),oK 1 (oG 19 (oL 22 1 21)),oG 19 (oO 23 (.call zqO) [s_ 20,s_ 22]),oG 19 (oO 24 (.un .not) [s_ 23]),oP 25 19 24,oI 2 10,oI 3 25] .ret) (oR [oC 27 .eql 6 2,oI 26 27] (.cond (s_ 26) (oR [oF 28 2 1,oK 1 (oL 29 1 28),oF 30 1 1,oK 1 (oL 31 1 30),oC 32 .eql 31 0,oI 33 32,oG 33 (oO 34 (.call ztb) []),oG 33 (oF 35 2 1),oK 1 (oG 33 (oL 36 1 35)),oG 33 (oO 37 (.call zqO) [s_ 34,s_ 36]),oP 38 33 37,oI 2 29,oI 3 38] .ret) (oR [oC 40 .eql 6 3,oI 39 40] (.cond (s_ 39) (oR [oF 41 1 1,oK 1 (oL 42 1 41),oO 43 (.call zx5) [s_ 42],oF 44 2 1,oK 1 (oL 45 1 44),oO 46 (.bin .eql) [s_ 45,.val (.str ⟨#[]⟩)],oI 47 46,oG 47 (oF 48 1 1),oK 1 (oG 47 (oL 49 1 48)),oG 47 (oC 50 .geq 49 0),oP 51 47 50,oI 52 51,oG 52 (oF 53 1 1),oK 1 (oG 52 (oL 54 1 53)),oG 52 (oC 55 .leq 54 1099511627776),oP 56 52 55,oI 2 43,oI 3 56] .ret) (oR [oC 58 .eql 6 4,oI 57 58] (.cond (s_ 57) (oR [oF 59 2 1,oL 60 1 59,oO 61 (.build [n_ 0,n_ 0,.str ⟨#[]⟩] [(0,1),(2,1)]) [.val (n_ 3),s_ 60],oO 4 (.allocL [n_ 0,n_ 0,.str ⟨#[]⟩]) [],oS 3 4 61] (oR [oK 4 (oM 62 3 4),oO 63 (.call zGl) [s_ 62],oF 64 1 1,oK 1 (oL 65 1 64),oC 66 .eql 65 0,oI 67 66,oK 4 (oG 67 (oM 68 3 4)),oG 67 (oO 69 (.call zlU) [s_ 68]),oP 70 67 69,oI 2 63,oI 3 70] .ret)) (oR [oC 72 .eql 6 5,oI 71 72] (oT 71 (oR [oF 73 2 1,oK 1 (oL 74 1 73),oF 75 1 1,oK 1 (oL 76 1 75),oC 77 .eql 76 0,oI 78 77,oG 78 (oO 79 (.call zCZ) []),oG 78 (oF 80 2 1),oK 1 (oG 78 (oL 81 1 80)),oG 78 (oO 82 (.call zqO) [s_ 79,s_ 81]),oP 83 78 82,oI 2 74,oI 3 83] .ret))))))))))))) (oR [oV 2 (.str ⟨#[]⟩),oV 3 (.bool false)] .ret))
def zqZ:IFun:=⟨84,[.slot 2,.slot 3],zAP,6,0,zaW⟩
theorem zfW:zaX Tryz.prog [1048577,1048580] 0 zx0=some zqZ:=by kernel_rfl
def zgp:ICode:=oR [oO 1 .boxL [s_ 0],oV 2 (.bool false)] (oR [oF 7 1 1,oK 1 (oL 8 1 7),oO 9 (.call zgj) [s_ 8],oF 10 2 1,oK 1 (oL 11 1 10),oO 12 (.call zgj) [s_ 11],oF 13 3 1,oK 1 (oL 14 1 13),oO 15 (.call zgj) [s_ 14],oF 16 4 1,oK 1 (oL 17 1 16),oO 18 (.call zgj) [s_ 17],oI 3 9,oI 4 12,oI 5 15,oI 6 18] (.seq (oR [oF 19 0 1,oL 20 1 19] (.block 0 (oR [oC 22 .eql 20 1,oI 21 22] (.cond (s_ 21) (oR [oI 23 3,oI 24 23,oG 24 (oF 25 2 1),oG 24 (oL 26 1 25),oG 24 (oO 27 (.bin .eql) [s_ 26,.val (.str ⟨#[]⟩)]),oP 28 24 27,oI 29 28,oG 29 (oF 30 3 1),oG 29 (oL 31 1 30),oG 29 (oO 32 (.bin .eql) [s_ 31,.val (.str ⟨#[]⟩)]),oP 33 29 32,oI 34 33,oG 34 (oF 35 4 1),oG 34 (oL 36 1 35),oG 34 (oO 37 (.bin .eql) [s_ 36,.val (.str ⟨#[]⟩)]),oP 38 34 37,oI 2 38] .ret) (.seq (oR [oC 40 .eql 20 2,oI 39 40] (.cond (s_ 39) .skip (.region [oC 41 .eql 20 4,oI 39 41]))) (.cond (s_ 39) (oR [oI 42 3,oI 43 42,oG 43 (oF 44 2 1),oG 43 (oL 45 1 44),oG 43 (oO 46 (.bin .eql) [s_ 45,.val (.str ⟨#[]⟩)]),oP 47 43 46,oI 48 47,oG 48 (oF 49 3 1),oG 48 (oL 50 1 49),oG 48 (oO 51 (.bin .eql) [s_ 50,.val (.str ⟨#[]⟩)]),oP 52 48 51,oI 53 52,oG 53 (oI 54 6),oP 55 53 54,oI 2 55] .ret) (oR [oC 57 .eql 20 3,oI 56 57] (.cond (s_ 56) (oR [oI 58 3,oI 59 58,oG 59 (oI 60 4),oP 61 59 60,oI 62 61,oG 62 (oI 63 5),oP 64 62 63,oI 65 64,oG 65 (oF 66 4 1),oG 65 (oL 67 1 66),oG 65 (oO 68 (.bin .eql) [s_ 67,.val (.str ⟨#[]⟩)]),oP 69 65 68,oI 2 69] .ret) (oR [oC 71 .eql 20 5,oI 70 71] (oT 70 (oR [oI 72 3,oI 73 72,oG 73 (oI 74 4),oP 75 73 74,oI 76 75,oG 76 (oI 77 5),oP 78 76 77,oI 79 78,oG 79 (oI 80 6),oP 81 79 80,oI 2 81] .ret))))))))))) (oR [oV 2 (.bool false)] .ret)))
def zeQ:IFun:=⟨82,[.slot 2],zgp,6,0,zaW⟩
theorem zfG:zaX Tryz.prog [1048577] 0 zx1=some zeQ:=by kernel_rfl
def zn4:ICode:=oR [oO 1 .boxL [s_ 0],oV 2 (.bool false)] (.seq (oR [oF 4 1 1,oM 5 5 4,oO 6 (.call zpy) [s_ 5],oO 7 (.un .not) [s_ 6]] (oT 7 (oR [oV 2 (.bool false)] .ret))) (oR [oF 8 6 1,oM 9 3 8,oO 10 (.build [n_ 0,n_ 0,.str ⟨#[]⟩] []) [],oO 11 (.eqv false [(.int .i64),(.int .i64),.str]) [s_ 9,s_ 10],oI 3 11] (.seq (oR [oF 12 0 1,oL 13 1 12] (.block 0 (.seq (oR [oC 15 .eql 13 1,oI 14 15] (.cond (s_ 14) .skip (.region [oC 16 .eql 13 2,oI 14 16]))) (.cond (s_ 14) (oR [oI 17 3,oI 18 17,oG 18 (oF 19 1 1),oG 18 (oM 20 5 19),oG 18 (oO 21 (.call zqP) [s_ 20]),oG 18 (oO 22 (.un .not) [s_ 21]),oP 23 18 22,oI 2 23] .ret) (oR [oC 25 .eql 13 3,oI 24 25] (.cond (s_ 24) (oR [oF 26 1 1,oM 27 5 26,oO 28 (.call zqP) [s_ 27],oI 29 28,oG 29 (oF 30 6 1),oG 29 (oM 31 3 30),oG 29 (oO 32 (.call zx6) [s_ 31]),oP 33 29 32,oI 2 33] .ret) (oR [oC 35 .eql 13 4,oI 34 35] (oT 34 (oR [oI 36 3,oI 37 36,oG 37 (oF 38 1 1),oG 37 (oM 39 5 38),oG 37 (oO 40 (.call zqP) [s_ 39]),oP 41 37 40,oI 2 41] .ret))))))))) (oR [oV 2 (.bool false)] .ret))))
def zjA:IFun:=⟨42,[.slot 2],zn4,6,0,zaW⟩
theorem zn5:zaX Tryz.prog [1048577] 0 zx2=some zjA:=by kernel_rfl
def b_x3:ICode:=oR [oV 2 (.bool false)] (oR [oI 3 0,oI 4 0,oB 5 .neq 3 4,oI 2 5] .ret)
def F_x3:IFun:=⟨6,[.slot 2],b_x3,6,0,zaW⟩
theorem c_cmp_isNaNint:zaX Tryz.prog [] 0 f_x3=some F_x3:=by kernel_rfl
def zDN:IFun:=⟨8,[],.trap,0,30,zk2⟩
def b_x106:ICode:=oR [oO 2 .boxL [s_ 0],oO 3 .boxL [s_ 1],oV 4 (n_ 0)] (oR [oF 5 0 2,oK 2 (oL 6 1 5),oF 7 0 3,oK 3 (oL 8 1 7),oO 9 (.call f_x0) [s_ 6,s_ 8],oF 10 1 2,oK 2 (oL 11 1 10),oF 12 1 3,oK 3 (oL 13 1 12),oO 14 (.call f_x0) [s_ 11,s_ 13],oF 15 2 2,oK 2 (oL 16 1 15),oF 17 2 3,oK 3 (oL 18 1 17),oO 19 (.call f_x1) [s_ 16,s_ 18],oO 20 (.buildSl 1 3 (n_ 0) [0,1,2]) [s_ 9,s_ 14,s_ 19],oO 21 (.call f_x2) [s_ 20],oI 4 21] .ret)
def F_x106:IFun:=⟨22,[.slot 4],b_x106,6,0,zaW⟩
theorem c_value_Compare:zaX Tryz.prog [1048578,1048579] 0 f_x106=some F_x106:=by kernel_rfl
def zj5:ICode:=.seq (oR [oI 29 5,oI 30 4,oO 31 .lensl [s_ 30],oB 32 .lss 29 31] (oE 32 2)) (.seq (.block 3 (oR [oI 35 4,oI 36 5,oX 37 3 35 36,⟨some 38,none,.load 3 true,[s_ 37],(some (.heap))⟩,oI 39 4,oI 40 5,oC 41 .sub 40 1,oX 42 3 39 41,⟨some 43,none,.load 3 true,[s_ 42],(some (.heap))⟩,oO 44 (.eqv true [(.int .i64),(.int .i64),.str]) [s_ 38,s_ 43]] (oT 44 (oR [oI 45 0,oI 46 3,oI 47 4,oI 48 5,oX 49 3 47 48,oM 50 3 49,oX 51 3 45 46,oS 3 51 50] (.region [oI 52 3,oC 53 .add 52 1,oI 3 53]))))) (.region [oI 33 5,oC 34 .add 33 1,oI 5 34]))
def zit:ICode:=.seq (oR [oI 10 3,oI 11 0,oO 12 .lensl [s_ 11],oB 13 .lss 10 12] (oE 13 0)) (.seq (.block 1 (oR [oI 16 0,oI 17 3,oX 18 3 16 17,⟨some 19,none,.load 3 true,[s_ 18],(some (.heap))⟩,oI 20 0,oI 21 3,oC 22 .sub 21 1,oX 23 3 20 22,⟨some 24,none,.load 3 true,[s_ 23],(some (.heap))⟩,oO 25 (.eqv false [(.int .i64),(.int .i64),.str]) [s_ 19,s_ 24]] (oT 25 (oR [oI 26 0,oI 27 3,oO 28 (.slsl 3 true false false) [s_ 26,s_ 27],oI 4 28] (.seq (oR [oV 5 (n_ 1)] (.block 2 (.loop zj5))) (oR [oI 54 0,oI 55 3,oO 56 (.slsl 3 true false false) [s_ 54,s_ 55],⟨none,none,.clearR 3 ((.agg [n_ 0,n_ 0,.str ⟨#[]⟩])),[s_ 56],none⟩] (oR [oI 57 0,oI 58 3,oO 59 (.slsl 3 false true false) [s_ 57,s_ 58],oI 2 59] .ret))))))) (.region [oI 14 3,oC 15 .add 14 1,oI 3 15]))
def zAQ:ICode:=oR [oV 2 .nilsl] (.seq (oR [oI 6 0,oO 7 .lensl [s_ 6],oC 8 .lss 7 2] (oT 8 (oR [oI 9 0,oI 2 9] .ret))) (.seq (oR [oV 3 (n_ 1)] (.block 0 (.loop zit))) (oR [oI 60 0,oI 2 60] .ret)))
def zn6:IFun:=⟨61,[.slot 2],zAQ,6,0,zaW⟩
theorem zcp:zaX Tryz.prog [3145746,3145751,3145765,3145770] 0 zqM=some zn6:=by kernel_rfl
def b_x4:ICode:=oR [oV 2 (.bool false)] (oR [oI 3 0,oI 4 0,oB 5 .neq 3 4,oI 2 5] .ret)
def F_x4:IFun:=⟨6,[.slot 2],b_x4,6,0,zaW⟩
theorem c_cmp_isNaNstring:zaX Tryz.prog [] 0 f_x4=some F_x4:=by kernel_rfl
def zAb:ICode:=oR [oV 2 (.bool false)] (oR [oI 3 0,oO 4 (.bin .geq) [s_ 3,.val (.int .u8 97)],oI 5 4,oG 5 (oI 6 0),oG 5 (oO 7 (.bin .leq) [s_ 6,.val (.int .u8 122)]),oP 8 5 7,oI 9 8,oH 9 (oI 10 0),oH 9 (oO 11 (.bin .geq) [s_ 10,.val (.int .u8 65)]),oH 9 (oI 12 11),oG 12 (oI 13 0),oG 12 (oO 14 (.bin .leq) [s_ 13,.val (.int .u8 90)]),oH 9 (oP 15 12 14),oQ 16 9 15,oI 2 16] .ret)
def zmh:IFun:=⟨17,[.slot 2],zAb,6,0,zaW⟩
theorem zjB:zaX Tryz.prog [] 0 zlZ=some zmh:=by kernel_rfl
def zmi:ICode:=oR [oV 2 (.bool false)] (oR [oI 3 0,oO 4 (.call zlZ) [s_ 3],oI 5 4,oH 5 (oI 6 0),oH 5 (oO 7 (.bin .geq) [s_ 6,.val (.int .u8 48)]),oH 5 (oI 8 7),oG 8 (oI 9 0),oG 8 (oO 10 (.bin .leq) [s_ 9,.val (.int .u8 57)]),oH 5 (oP 11 8 10),oQ 12 5 11,oI 13 12,oH 13 (oI 14 0),oH 13 (oO 15 (.bin .eql) [s_ 14,.val (.int .u8 95)]),oQ 16 13 15,oI 2 16] .ret)
def zhD:IFun:=⟨17,[.slot 2],zmi,6,0,zaW⟩
theorem zkU:zaX Tryz.prog [] 0 zpx=some zhD:=by kernel_rfl
def zpC:IFun:=⟨8,[],.trap,0,11,zaW⟩
def zd2:ICode:=oR [oB 8 .lss 7 6] (.seq (oE 8 0) (.seq (.block 1 (oR [oX 9 1 5 7,oL 10 1 9,oI 4 10] (oR [oI 11 4,oO 12 (.call zij) [s_ 11],oO 13 (.un .not) [s_ 12]] (oT 13 (oR [oV 2 (.bool false)] .ret))))) (.region [oC 14 .add 7 1,oI 7 14])))
def zj6:ICode:=oR [oV 2 (.bool false)] (.seq (oR [oI 5 0,oO 6 .lensl [s_ 5],oV 7 (n_ 0)] (.block 0 (.loop zd2))) (oR [oV 2 (.bool true)] .ret))
def zfJ:IFun:=⟨15,[.slot 2],zj6,6,0,zaW⟩
theorem zkV:zaX Tryz.prog [] 0 zdG=some zfJ:=by kernel_rfl
def zAR:ICode:=oR [oV 2 (.bool false)] (oR [oI 3 0,oO 4 (.call zij) [s_ 3],oI 5 4,oG 5 (oO 6 (.call zx8) []),oG 5 (oI 7 0),oG 5 (oO 8 (.call zx7) [s_ 6,s_ 7]),oG 5 (oO 9 (.un .not) [s_ 8]),oP 10 5 9,oI 2 10] .ret)
def zq0:IFun:=⟨11,[.slot 2],zAR,6,0,zaW⟩
theorem zn7:zaX Tryz.prog [] 0 znQ=some zq0:=by kernel_rfl
def zDO:ICode:=oR [oO 2 (.allocL [n_ 0,n_ 0,.str ⟨#[]⟩]) []] (oR [oI 3 0,oO 4 (.minmax true) [s_ 3,.val (.int .i64 (-1099511627776))],oO 5 (.minmax false) [s_ 4,.val (n_ 1099511627776)],oO 6 (.build [n_ 0,n_ 0,.str ⟨#[]⟩] [(0,1),(1,1)]) [.val (n_ 2),s_ 5],oS 3 2 6] .ret)
def zuc:IFun:=⟨7,[.cell 2 3 true],zDO,6,0,zaW⟩
theorem zkW:zaX Tryz.prog [1048578] 0 znR=some zuc:=by kernel_rfl
def zDP:ICode:=oR [oO 3 .boxL [s_ 1],oV 4 .nilsl] (.seq (oR [oI 8 0,oO 9 .nilchk [s_ 8],oF 10 1 9,⟨some 11,none,.load 1 false,[s_ 10],(some (.heap))⟩,oF 12 4 3,oK 3 (oL 13 1 12),oO 14 (.call zAG) [s_ 11,s_ 13],oO 5 (.allocK 7 [n_ 0,n_ 0,.str ⟨#[]⟩]) [],oK 5 (oS 3 5 14)] (.bump 9)) (.seq (oR [oM 16 3 5,oO 17 (.call zgl) [s_ 16],oI 15 17,oO 18 (.extract 0) [s_ 15],oO 19 (.extract 1) [s_ 15],oO 6 (.allocL [.str ⟨#[]⟩,.str ⟨#[]⟩,.str ⟨#[]⟩]) [],oS 3 6 18,oI 7 19] (oR [oI 20 7] (oT 20 (oR [oI 21 0,oO 22 .nilchk [s_ 21],oF 23 2 22,⟨some 24,none,.load 1 false,[s_ 23],(some (.heap))⟩,oF 25 0 6,oK 6 (oL 26 1 25),oF 27 1 6,oK 6 (oL 28 1 27),oF 29 2 6,oK 6 (oL 30 1 29),oF 31 5 3,oK 3 (oL 32 1 31),oO 33 (.build [n_ 0,.str ⟨#[]⟩,.str ⟨#[]⟩,.str ⟨#[]⟩,.str ⟨#[]⟩] [(0,1),(1,1),(2,1),(3,1),(4,1)]) [.val (n_ 5),s_ 26,s_ 28,s_ 30,s_ 32],oO 34 (.callP zs2) [s_ 24,s_ 33],oI 4 34] .ret)))) (.seq (oR [oF 35 0 5,oL 36 1 35,oC 37 .eql 36 4] (oT 37 (oR [oI 38 0,oO 39 .nilchk [s_ 38],oF 40 2 39,⟨some 41,none,.load 1 false,[s_ 40],(some (.heap))⟩,oF 42 2 5,oK 5 (oL 43 1 42),oF 44 5 3,oK 3 (oL 45 1 44),oO 46 (.build [n_ 0,.str ⟨#[]⟩,.str ⟨#[]⟩,.str ⟨#[]⟩,.str ⟨#[]⟩] [(0,1),(1,1),(4,1)]) [.val (n_ 4),s_ 43,s_ 45],oO 47 (.callP zs2) [s_ 41,s_ 46],oI 4 47] .ret))) (oR [oV 4 .nilsl] .ret))))
def zud:IFun:=⟨48,[.slot 4],zDP,6,1,zaW⟩
theorem zes:zaX Tryz.prog [1048579,1048581,1048582,2097188] 1 zqN=some zud:=by kernel_rfl
def zDQ:ICode:=oR [oO 4 (.allocL [n_ 0,n_ 0,.str ⟨#[]⟩]) []] (oR [oI 7 0,oI 8 1,oB 9 .mul 7 8,oI 5 9] (.seq (oR [oI 10 0,oO 11 (.bin .shr) [s_ 10,.val (.int .u64 20)],oI 12 1,oO 13 (.bin .shr) [s_ 12,.val (.int .u64 20)],oB 14 .mul 11 13,oI 6 14] (oR [oI 15 6,oC 16 .gtr 15 2097152,oI 17 16,oH 17 (oI 18 6),oH 17 (oC 19 .lss 18 (-2097152)),oQ 20 17 19] (oT 20 (oR [oV 5 (n_ 1099511627776)] (oR [oI 21 6,oC 22 .lss 21 0] (oT 22 (.region [oI 23 5,oO 24 (.un .neg) [s_ 23],oI 5 24]))))))) (oR [oI 25 5,oO 26 (.call znR) [s_ 25],oS 3 4 26] .ret)))
def zue:IFun:=⟨27,[.cell 4 3 true],zDQ,6,0,zaW⟩
theorem zjC:zaX Tryz.prog [1048580] 0 zx4=some zue:=by kernel_rfl
def zGo:ICode:=oR [oV 2 (.str ⟨#[]⟩)] (.seq (oR [oI 3 0,oC 4 .lss 3 0,oI 5 4,oG 5 (oI 6 0),oG 5 (oC 7 .gtr 6 (-10)),oP 8 5 7] (oT 8 (oR [oI 9 0,oO 10 (.bin .sub) [.val (n_ 48),s_ 9],oO 11 (.conv .u8) [s_ 10],oO 12 (.buildSl 1 1 (.int .u8 0) [0]) [s_ 11],oO 13 .b2s [s_ 12],oO 14 (.bin .add) [.val (.str ⟨#[45]⟩),s_ 13],oI 2 14] .ret))) (.seq (oR [oI 15 0,oC 16 .lss 15 0] (oT 16 (oR [oI 17 0,oC 18 .quo 17 10,oO 19 (.call zx5) [s_ 18],oI 20 0,oC 21 .rem 20 10,oO 22 (.bin .sub) [.val (n_ 48),s_ 21],oO 23 (.conv .u8) [s_ 22],oO 24 (.buildSl 1 1 (.int .u8 0) [0]) [s_ 23],oO 25 .b2s [s_ 24],oB 26 .add 19 25,oI 2 26] .ret))) (.seq (oR [oI 27 0,oC 28 .lss 27 10] (oT 28 (oR [oI 29 0,oO 30 (.bin .add) [.val (n_ 48),s_ 29],oO 31 (.conv .u8) [s_ 30],oO 32 (.buildSl 1 1 (.int .u8 0) [0]) [s_ 31],oO 33 .b2s [s_ 32],oI 2 33] .ret))) (oR [oI 34 0,oC 35 .quo 34 10,oO 36 (.call zx5) [s_ 35],oI 37 0,oC 38 .rem 37 10,oO 39 (.bin .add) [.val (n_ 48),s_ 38],oO 40 (.conv .u8) [s_ 39],oO 41 (.buildSl 1 1 (.int .u8 0) [0]) [s_ 40],oO 42 .b2s [s_ 41],oB 43 .add 36 42,oI 2 43] .ret))))
def zDR:IFun:=⟨44,[.slot 2],zGo,6,0,zaW⟩
theorem zet:zaX Tryz.prog [] 0 zx5=some zDR:=by kernel_rfl
def zDS:ICode:=oR [oB 10 .lss 9 8] (.seq (oE 10 0) (.seq (.block 1 (oR [oX 11 1 7 9,oL 12 1 11,oI 6 12] (oR [oI 13 6,oI 14 1,oB 15 .eql 13 14] (oT 15 (oR [oV 4 (.bool true)] .ret))))) (.region [oC 16 .add 9 1,oI 9 16])))
def zDT:ICode:=oR [oV 4 (.bool false)] (.seq (oR [oI 7 0,oO 8 .lensl [s_ 7],oV 9 (n_ 0)] (.block 0 (.loop zDS))) (oR [oV 4 (.bool false)] .ret))
def zuf:IFun:=⟨17,[.slot 4],zDT,6,0,zaW⟩
theorem zgq:zaX Tryz.prog [] 0 zqO=some zuf:=by kernel_rfl
def zDU:ICode:=oR [oV 0 .nilsl] (oR [oO 1 (.buildSl 1 26 (.str ⟨#[]⟩) [0,1,2,3,4,5,6,7,8,9,10,11,12,13,14,15,16,17,18,19,20,21,22,23,24,25]) [.val (.str ⟨#[77,65,84,67,72]⟩),.val (.str ⟨#[79,80,84,73,79,78,65,76]⟩),.val (.str ⟨#[87,72,69,82,69]⟩),.val (.str ⟨#[82,69,84,85,82,78]⟩),.val (.str ⟨#[68,73,83,84,73,78,67,84]⟩),.val (.str ⟨#[79,82,68,69,82]⟩),.val (.str ⟨#[66,89]⟩),.val (.str ⟨#[68,69,83,67]⟩),.val (.str ⟨#[83,75,73,80]⟩),.val (.str ⟨#[76,73,77,73,84]⟩),.val (.str ⟨#[67,82,69,65,84,69]⟩),.val (.str ⟨#[83,69,84]⟩),.val (.str ⟨#[82,69,77,79,86,69]⟩),.val (.str ⟨#[68,69,76,69,84,69]⟩),.val (.str ⟨#[65,78,68]⟩),.val (.str ⟨#[79,82]⟩),.val (.str ⟨#[78,79,84]⟩),.val (.str ⟨#[73,83]⟩),.val (.str ⟨#[78,85,76,76]⟩),.val (.str ⟨#[84,82,85,69]⟩),.val (.str ⟨#[70,65,76,83,69]⟩),.val (.str ⟨#[67,79,85,78,84]⟩),.val (.str ⟨#[83,85,77]⟩),.val (.str ⟨#[77,73,78]⟩),.val (.str ⟨#[77,65,88]⟩),.val (.str ⟨#[77,65,78,89]⟩)],oI 0 1] .ret)
def zug:IFun:=⟨2,[.slot 0],zDU,6,0,zaW⟩
theorem zeR:zaX Tryz.prog [] 0 ztb=some zug:=by kernel_rfl
def zGp:ICode:=oR [oV 0 .nilsl] (oR [oO 1 (.buildSl 1 20 (.str ⟨#[]⟩) [0,1,2,3,4,5,6,7,8,9,10,11,12,13,14,15,16,17,18,19]) [.val (.str ⟨#[40]⟩),.val (.str ⟨#[41]⟩),.val (.str ⟨#[91]⟩),.val (.str ⟨#[93]⟩),.val (.str ⟨#[58]⟩),.val (.str ⟨#[44]⟩),.val (.str ⟨#[46]⟩),.val (.str ⟨#[46,46]⟩),.val (.str ⟨#[45]⟩),.val (.str ⟨#[45,62]⟩),.val (.str ⟨#[60,45]⟩),.val (.str ⟨#[61]⟩),.val (.str ⟨#[60,62]⟩),.val (.str ⟨#[60]⟩),.val (.str ⟨#[60,61]⟩),.val (.str ⟨#[62]⟩),.val (.str ⟨#[62,61]⟩),.val (.str ⟨#[43]⟩),.val (.str ⟨#[42]⟩),.val (.str ⟨#[64]⟩)],oI 0 1] .ret)
def zDV:IFun:=⟨2,[.slot 0],zGp,6,0,zaW⟩
theorem zeS:zaX Tryz.prog [] 0 zCZ=some zDV:=by kernel_rfl
def zeT:ICode:=oR [oO 1 .boxL [s_ 0],oV 2 (.bool false)] (.seq (oR [oF 3 0 1,oL 4 1 3] (.block 0 (oR [oC 6 .eql 4 1,oI 5 6] (.cond (s_ 5) (oR [oF 7 1 1,oL 8 1 7,oO 9 (.buildSl 1 1 (.str ⟨#[]⟩) [0]) [s_ 8],oO 10 (.call zdG) [s_ 9],oI 11 10,oG 11 (oF 12 2 1),oG 11 (oL 13 1 12),oG 11 (oF 14 3 1),oG 11 (oL 15 1 14),oG 11 (oF 16 4 1),oG 11 (oL 17 1 16),oG 11 (oO 18 (.buildSl 1 3 (.str ⟨#[]⟩) [0,1,2]) [s_ 13,s_ 15,s_ 17]),oG 11 (oO 19 (.call zgm) [s_ 18]),oP 20 11 19,oI 2 20] .ret) (.seq (oR [oC 22 .eql 4 2,oI 21 22] (.cond (s_ 21) .skip (.region [oC 23 .eql 4 4,oI 21 23]))) (.cond (s_ 21) (oR [oF 24 1 1,oL 25 1 24,oF 26 4 1,oL 27 1 26,oO 28 (.buildSl 1 2 (.str ⟨#[]⟩) [0,1]) [s_ 25,s_ 27],oO 29 (.call zdG) [s_ 28],oI 30 29,oG 30 (oF 31 2 1),oG 30 (oL 32 1 31),oG 30 (oF 33 3 1),oG 30 (oL 34 1 33),oG 30 (oO 35 (.buildSl 1 2 (.str ⟨#[]⟩) [0,1]) [s_ 32,s_ 34]),oG 30 (oO 36 (.call zgm) [s_ 35]),oP 37 30 36,oI 2 37] .ret) (oR [oC 39 .eql 4 3,oI 38 39] (.cond (s_ 38) (oR [oF 40 1 1,oL 41 1 40,oF 42 2 1,oL 43 1 42,oF 44 3 1,oL 45 1 44,oO 46 (.buildSl 1 3 (.str ⟨#[]⟩) [0,1,2]) [s_ 41,s_ 43,s_ 45],oO 47 (.call zdG) [s_ 46],oI 48 47,oG 48 (oF 49 4 1),oG 48 (oL 50 1 49),oG 48 (oO 51 (.buildSl 1 1 (.str ⟨#[]⟩) [0]) [s_ 50]),oG 48 (oO 52 (.call zgm) [s_ 51]),oP 53 48 52,oI 2 53] .ret) (oR [oC 55 .eql 4 5,oI 54 55] (oT 54 (oR [oF 56 1 1,oL 57 1 56,oF 58 2 1,oL 59 1 58,oF 60 3 1,oL 61 1 60,oF 62 4 1,oL 63 1 62,oO 64 (.buildSl 1 4 (.str ⟨#[]⟩) [0,1,2,3]) [s_ 57,s_ 59,s_ 61,s_ 63],oO 65 (.call zdG) [s_ 64],oI 2 65] .ret))))))))))) (oR [oV 2 (.bool false)] .ret))
def zdw:IFun:=⟨66,[.slot 2],zeT,6,0,zaW⟩
theorem zmj:zaX Tryz.prog [1048577] 0 zpy=some zdw:=by kernel_rfl
def zAS:ICode:=oR [oO 1 .boxL [s_ 0],oV 2 (.bool false)] (oR [oF 3 0 1,oL 4 1 3,oC 5 .eql 4 4,oI 6 5,oH 6 (oF 7 0 1),oH 6 (oL 8 1 7),oH 6 (oC 9 .eql 8 5),oQ 10 6 9,oI 2 10] .ret)
def zq1:IFun:=⟨11,[.slot 2],zAS,6,0,zaW⟩
theorem zmk:zaX Tryz.prog [1048577] 0 zqP=some zq1:=by kernel_rfl
def zyf:ICode:=oR [oO 1 .boxL [s_ 0],oV 2 (.bool false)] (oR [oF 3 0 1,oL 4 1 3,oC 5 .geq 4 1,oI 6 5,oG 6 (oF 7 0 1),oG 6 (oL 8 1 7),oG 6 (oC 9 .leq 8 3),oP 10 6 9,oI 11 10,oG 11 (oM 12 3 1),oG 11 (oO 13 (.call zii) [s_ 12]),oP 14 11 13,oI 2 14] .ret)
def zn8:IFun:=⟨15,[.slot 2],zyf,6,0,zaW⟩
theorem zjD:zaX Tryz.prog [1048577] 0 zx6=some zn8:=by kernel_rfl
def zDW:ICode:=oR [oV 4 (.bool false)] (oR [oI 5 0,oI 6 1,oO 7 (.call ztc) [s_ 5,s_ 6],oC 8 .geq 7 0,oI 4 8] .ret)
def zuh:IFun:=⟨9,[.slot 4],zDW,6,0,zaW⟩
theorem zc3:zaX Tryz.prog [] 0 zx7=some zuh:=by kernel_rfl
def zDX:ICode:=oR [oV 0 .nilsl] (oR [oO 1 (.buildSl 1 26 (.str ⟨#[]⟩) [0,1,2,3,4,5,6,7,8,9,10,11,12,13,14,15,16,17,18,19,20,21,22,23,24,25]) [.val (.str ⟨#[77,65,84,67,72]⟩),.val (.str ⟨#[79,80,84,73,79,78,65,76]⟩),.val (.str ⟨#[87,72,69,82,69]⟩),.val (.str ⟨#[82,69,84,85,82,78]⟩),.val (.str ⟨#[68,73,83,84,73,78,67,84]⟩),.val (.str ⟨#[79,82,68,69,82]⟩),.val (.str ⟨#[66,89]⟩),.val (.str ⟨#[68,69,83,67]⟩),.val (.str ⟨#[83,75,73,80]⟩),.val (.str ⟨#[76,73,77,73,84]⟩),.val (.str ⟨#[67,82,69,65,84,69]⟩),.val (.str ⟨#[83,69,84]⟩),.val (.str ⟨#[82,69,77,79,86,69]⟩),.val (.str ⟨#[68,69,76,69,84,69]⟩),.val (.str ⟨#[65,78,68]⟩),.val (.str ⟨#[79,82]⟩),.val (.str ⟨#[78,79,84]⟩),.val (.str ⟨#[73,83]⟩),.val (.str ⟨#[78,85,76,76]⟩),.val (.str ⟨#[84,82,85,69]⟩),.val (.str ⟨#[70,65,76,83,69]⟩),.val (.str ⟨#[67,79,85,78,84]⟩),.val (.str ⟨#[83,85,77]⟩),.val (.str ⟨#[77,73,78]⟩),.val (.str ⟨#[77,65,88]⟩),.val (.str ⟨#[77,65,78,89]⟩)],oI 0 1] .ret)
def zui:IFun:=⟨2,[.slot 0],zDX,6,0,zaW⟩
theorem zn9:zaX Tryz.prog [] 0 zx8=some zui:=by kernel_rfl
def zAc:ICode:=oR [oV 2 (.bool false)] (oR [oI 3 0,oO 4 (.call zs5) [s_ 3,.val (.str ⟨#[]⟩)],oO 5 (.bin .eql) [s_ 4,.val (.str ⟨#[]⟩)],oI 2 5] .ret)
def zml:IFun:=⟨6,[.slot 2],zAc,6,0,zaW⟩
theorem zkX:zaX Tryz.prog [2097231] 0 zgm=some zml:=by kernel_rfl
def zAd:ICode:=oR [oB 9 .lss 8 7] (.seq (oE 9 0) (.seq (.block 1 (oR [oI 10 8,oI 5 10] (oR [oI 11 1,oI 12 0,oI 13 5,oX 14 1 12 13,oL 15 1 14,oB 16 .eql 11 15] (oT 16 (oR [oI 17 5,oI 4 17] .ret))))) (.region [oC 18 .add 8 1,oI 8 18])))
def zDY:ICode:=oR [oV 4 (n_ 0)] (.seq (oR [oI 6 0,oO 7 .lensl [s_ 6],oV 8 (n_ 0)] (.block 0 (.loop zAd))) (oR [oV 4 (.int .i64 (-1))] .ret))
def zuj:IFun:=⟨19,[.slot 4],zDY,6,0,zaW⟩
theorem zds:zaX Tryz.prog [] 0 ztc=some zuj:=by kernel_rfl
def rows:List (Nat × List Nat × IFun):=[ (3,[1048586,1048589,1048591,1048594,1048596,1048598,2097161,2097169,2097170,2097171,2097173,2097172],zth), (9,[1048577,1048579,1048581,1048583,2097169,2097170],zC0), (10,[1048577],zti), (11,[1048580],ztj), (12,[1048577,1048579,2097201],zhd), (13,[1048579,1048581,1048583],ztm), (14,[3],ztn), (15,[3,1048582,8388613],zto), (16,[15,1048581,1048583,33554432,8388645],ztr), (17,[37,1048584,1048589,2097220],zC7), (18,[1048585,2097169],zts), (19,[1048583],ztt), (20,[1048582,1048584,1048585,1048586,1048588,1048589,2097223,2097172],zkI), (21,[1048578,1048579,1048581],ztu), (36,[1048579],ztv), (37,[1048579,1048583,2097240],ztx), (38,[2097243],zty), (41,[1048579,2097234,2097243,2097190],znV), (44,[],zHZ), (45,[1048580],zCm), (46,[1048578],ztA), (47,[],ztB), (48,[],zqR), (49,[1048578,3145765,3145768,3145771],zeG), (50,[1048577,1048579],zkJ), (51,[1048577],znW), (52,[1048583],znX), (53,[16777223],znY), (54,[1048578],ztC), (55,[1048578,1048579],zj1), (56,[1048580],ztE), (57,[1048578,1048579],zl0), (58,[],zDi), (59,[1048580],zj3), (61,[1048581,1048582,2097229,2097262,2097263,2097264,33554432,16777303],zdY), (62,[],zDj), (63,[1048578,1048579],F_x37), (64,[1048577],ztG), (65,[1048577,1048579],zdH), (66,[1048580],ztH), (67,[],ztI), (68,[1048579,1048580,1048581,1048582,2097273],ztJ), (69,[1048578,1048579],ztK), (70,[1048578,1048580],ztL), (71,[1048580,1048583,2097189,2097201],ztM), (72,[1048578],ztN), (73,[1048579,1048580,1048582,1048583,1048584],zkP), (74,[1048580,1048581,1048582],ztO), (75,[],znZ), (76,[],ztP), (77,[1048578],ztQ), (78,[1048577,1048578],ztR), (79,[],zpz), (82,[1048577,1048578],ztS), (87,[],zn0), (88,[1048579,2097190,2097193],zl4), (89,[1048579,1048583,1048586],ztV), (90,[1048578,1048579],zn1), (91,[1048579],ztW), (92,[3],zDz), (93,[],ztX), (94,[7,3145758,3145766],ztY), (95,[1048577],zim), (96,[1048578,1048579],zj4), (97,[1048577],zl7), (98,[1048577],zt0), (99,[1048577,1048578],zt1), (100,[],zn2), (101,[1048577],zin), (102,[],F_x2), (103,[],F_x0), (106,[1048579,8388612],zio), (107,[],zDE), (108,[1048578,1048579],F_x97), (109,[1048578,1048579],F_x95), (110,[1048577,1048578],zt4), (111,[1048577,1048578,2097262,2097230,2097229],zqV), (112,[1048579,1048583,16777236,8388612],zma), (115,[],F_x1), (116,[],zmb), (117,[],zhC), (118,[1048577,1048578,2097308],zdi), (119,[1048578,1048581],zt5), (120,[],zt6), (121,[1048579,1048580,2097312],zt7), (122,[1048579,1048580],zmf), (123,[1048579,1048580,1048582,1048583,1048584],zkT), (124,[1048580,1048581,1048582,1048583],zt9), (125,[1048580,1048581,1048582],zua), (132,[1048578,1048579],zub), (133,[1048578],zDM), (134,[1048577,1048580],zqZ), (135,[1048577],zeQ), (136,[1048577],zjA), (137,[],F_x3), (140,[],zDN), (141,[1048578,1048579],F_x106), (142,[3145746,3145751,3145765,3145770],zn6), (153,[],F_x4), (154,[],zmh), (155,[],zhD), (156,[],zpC), (157,[],zfJ), (158,[],zq0), (159,[1048578],zuc), (160,[1048579,1048581,1048582,2097188],zud), (161,[1048580],zue), (167,[],zDR), (168,[],zuf), (169,[],zug), (170,[],zDV), (171,[1048577],zdw), (172,[1048577],zq1), (173,[1048577],zn8), (190,[],zuh), (191,[],zui), (197,[2097231],zml), (213,[],zuj)]
def T:Nat→Option IFun:=zei rows
theorem T_rows:RowsOk Tryz.prog rows:=.cons zdy (by decide) <| .cons zeB (by decide) <| .cons zeC (by decide) <| .cons zeD (by decide) <| .cons zeE (by decide) <| .cons zeo (by decide) <| .cons znS (by decide) <| .cons zhR (by decide) <| .cons zqQ (by decide) <| .cons znT (by decide) <| .cons znU (by decide) <| .cons zfv (by decide) <| .cons zfw (by decide) <| .cons zfR (by decide) <| .cons zfS (by decide) <| .cons zep (by decide) <| .cons zfx (by decide) <| .cons zdX (by decide) <| .cons zju (by decide) <| .cons zjv (by decide) <| .cons zfT (by decide) <| .cons zeF (by decide) <| .cons zfy (by decide) <| .cons zfz (by decide) <| .cons zeH (by decide) <| .cons zkK (by decide) <| .cons zbH (by decide) <| .cons zb4 (by decide) <| .cons zgn (by decide) <| .cons zjw (by decide) <| .cons za5 (by decide) <| .cons zkL (by decide) <| .lib zbI (by decide) <| .cons zhf (by decide) <| .cons zhS (by decide) <| .lib zb1 (by decide) <| .cons c_graph_order (by decide) <| .cons zkN (by decide) <| .cons zkO (by decide) <| .cons zl1 (by decide) <| .cons zbX (by decide) <| .cons zgo (by decide) <| .cons zjx (by decide) <| .cons zdZ (by decide) <| .cons zeq (by decide) <| .cons zd0 (by decide) <| .cons zeI (by decide) <| .cons zeJ (by decide) <| .cons zeK (by decide) <| .cons zeL (by decide) <| .cons zl2 (by decide) <| .cons zl3 (by decide) <| .lib zHz (by decide) <| .cons zfA (by decide) <| .cons zcz (by decide) <| .cons zfB (by decide) <| .cons zfC (by decide) <| .cons zd1 (by decide) <| .cons zfU (by decide) <| .cons zil (by decide) <| .cons zfD (by decide) <| .cons zeM (by decide) <| .cons zer (by decide) <| .cons zkQ (by decide) <| .cons zjy (by decide) <| .cons zjz (by decide) <| .cons zqU (by decide) <| .cons zbO (by decide) <| .cons zl8 (by decide) <| .cons c_cmp_Orint (by decide) <| .cons c_cmp_Compareint (by decide) <| .cons zeN (by decide) <| .lib zbJ (by decide) <| .cons c_store_Store_All_1 (by decide) <| .cons c_store_Order (by decide) <| .cons zl9 (by decide) <| .cons zkR (by decide) <| .cons zfE (by decide) <| .cons c_cmp_Comparestring (by decide) <| .cons zkS (by decide) <| .cons zmd (by decide) <| .cons zme (by decide) <| .cons zqW (by decide) <| .cons zcf (by decide) <| .cons zfF (by decide) <| .cons zqX (by decide) <| .cons zmg (by decide) <| .cons zir (by decide) <| .cons zis (by decide) <| .cons zeP (by decide) <| .cons zhg (by decide) <| .cons zfW (by decide) <| .cons zfG (by decide) <| .cons zn5 (by decide) <| .cons c_cmp_isNaNint (by decide) <| .lib zbR (by decide) <| .cons c_value_Compare (by decide) <| .cons zcp (by decide) <| .cons c_cmp_isNaNstring (by decide) <| .cons zjB (by decide) <| .cons zkU (by decide) <| .lib zHA (by decide) <| .cons zkV (by decide) <| .cons zn7 (by decide) <| .cons zkW (by decide) <| .cons zes (by decide) <| .cons zjC (by decide) <| .cons zet (by decide) <| .cons zgq (by decide) <| .cons zeR (by decide) <| .cons zeS (by decide) <| .cons zmj (by decide) <| .cons zmk (by decide) <| .cons zjD (by decide) <| .cons zc3 (by decide) <| .cons zn9 (by decide) <| .cons zkX (by decide) <| .cons zds (by decide) <| .nil
theorem T_ok:zcD Tryz.prog T:=zhy (by kernel_rfl) T_rows.all
theorem zDZ:T zlT=some zth:=by kernel_rfl
theorem zGq:T zxx=some zti:=by kernel_rfl
theorem zGr:T zxy=some ztj:=by kernel_rfl
theorem zGs:T zlU=some zhd:=by kernel_rfl
theorem zGt:T zsX=some ztm:=by kernel_rfl
theorem zGu:T zsY=some ztn:=by kernel_rfl
theorem zGv:T znJ=some zto:=by kernel_rfl
theorem zGw:T zsZ=some ztr:=by kernel_rfl
theorem zIq:T zw3=some zC7:=by kernel_rfl
theorem zGx:T znK=some zts:=by kernel_rfl
theorem zGy:T zs0=some ztt:=by kernel_rfl
theorem zAT:T zhQ=some zkI:=by kernel_rfl
theorem zGz:T zs1=some ztu:=by kernel_rfl
theorem zGA:T zs2=some ztv:=by kernel_rfl
theorem zGB:T zqD=some ztx:=by kernel_rfl
theorem zGC:T zqE=some zty:=by kernel_rfl
theorem zGD:T zxz=some znV:=by kernel_rfl
theorem zIr:T zAG=some zCm:=by kernel_rfl
theorem zGE:T zxA=some ztA:=by kernel_rfl
theorem zGF:T zxB=some ztB:=by kernel_rfl
theorem zGG:T zgj=some zqR:=by kernel_rfl
theorem zD0:T zlV=some zeG:=by kernel_rfl
theorem zGH:T zxC=some zkJ:=by kernel_rfl
theorem zGI:T zxD=some znW:=by kernel_rfl
theorem zD1:T znL=some znX:=by kernel_rfl
theorem zGJ:T zjr=some znY:=by kernel_rfl
theorem zGK:T zxE=some ztC:=by kernel_rfl
theorem zD2:T zpt=some zj1:=by kernel_rfl
theorem zGL:T znM=some ztE:=by kernel_rfl
theorem zD3:T zs3=some zl0:=by kernel_rfl
theorem zGM:T zxF=some zDi:=by kernel_rfl
theorem zD4:T zlW=some zj3:=by kernel_rfl
theorem zmm:T zfu=some zdY:=by kernel_rfl
theorem zD5:T zxG=some zDj:=by kernel_rfl
theorem T_x37:T f_x37=some F_x37:=by kernel_rfl
theorem zGN:T zAH=some ztG:=by kernel_rfl
theorem zD6:T zii=some zdH:=by kernel_rfl
theorem zGO:T zxH=some ztH:=by kernel_rfl
theorem zGP:T zxI=some ztI:=by kernel_rfl
theorem zGQ:T zxJ=some ztJ:=by kernel_rfl
theorem zGR:T zgk=some ztK:=by kernel_rfl
theorem zGS:T zqF=some ztL:=by kernel_rfl
theorem zGT:T zqG=some ztM:=by kernel_rfl
theorem zGU:T zjs=some ztN:=by kernel_rfl
theorem zGV:T zs4=some zkP:=by kernel_rfl
theorem zGW:T zxK=some ztO:=by kernel_rfl
theorem zGX:T zqH=some znZ:=by kernel_rfl
theorem zGY:T zxL=some ztP:=by kernel_rfl
theorem zGZ:T znN=some ztQ:=by kernel_rfl
theorem zG0:T zxM=some ztR:=by kernel_rfl
theorem zD7:T zs5=some zpz:=by kernel_rfl
theorem zG1:T zxN=some ztS:=by kernel_rfl
theorem zD8:T zxO=some zn0:=by kernel_rfl
theorem zG2:T zxP=some zl4:=by kernel_rfl
theorem zG3:T zqI=some ztV:=by kernel_rfl
theorem zG4:T zqJ=some zn1:=by kernel_rfl
theorem zG5:T zs6=some ztW:=by kernel_rfl
theorem zIs:T zCl=some zDz:=by kernel_rfl
theorem zG6:T znO=some ztX:=by kernel_rfl
theorem zG7:T zs7=some ztY:=by kernel_rfl
theorem zG8:T zxQ=some zim:=by kernel_rfl
theorem zD9:T zpu=some zj4:=by kernel_rfl
theorem zEa:T zpv=some zl7:=by kernel_rfl
theorem zG9:T zxR=some zt0:=by kernel_rfl
theorem zHa:T zxS=some zt1:=by kernel_rfl
theorem zEb:T zqK=some zn2:=by kernel_rfl
theorem zEc:T zlX=some zin:=by kernel_rfl
theorem T_x2:T f_x2=some F_x2:=by kernel_rfl
theorem T_x0:T f_x0=some F_x0:=by kernel_rfl
theorem zAe:T zjX=some zio:=by kernel_rfl
theorem zEd:T zxT=some zDE:=by kernel_rfl
theorem T_x97:T f_x97=some F_x97:=by kernel_rfl
theorem T_x95:T f_x95=some F_x95:=by kernel_rfl
theorem zHb:T zs8=some zt4:=by kernel_rfl
theorem zHc:T zxU=some zqV:=by kernel_rfl
theorem zEe:T zlY=some zma:=by kernel_rfl
theorem T_x1:T f_x1=some F_x1:=by kernel_rfl
theorem zEf:T zpw=some zmb:=by kernel_rfl
theorem zEg:T zij=some zhC:=by kernel_rfl
theorem zAf:T zgl=some zdi:=by kernel_rfl
theorem zHd:T zxV=some zt5:=by kernel_rfl
theorem zHe:T zqL=some zt6:=by kernel_rfl
theorem zHf:T znP=some zt7:=by kernel_rfl
theorem zHg:T zxW=some zmf:=by kernel_rfl
theorem zHh:T zs9=some zkT:=by kernel_rfl
theorem zHi:T zxX=some zt9:=by kernel_rfl
theorem zHj:T zxY=some zua:=by kernel_rfl
theorem zHk:T zxZ=some zub:=by kernel_rfl
theorem zIt:T zCY=some zDM:=by kernel_rfl
theorem zHl:T zx0=some zqZ:=by kernel_rfl
theorem zHm:T zx1=some zeQ:=by kernel_rfl
theorem zHn:T zx2=some zjA:=by kernel_rfl
theorem T_x3:T f_x3=some F_x3:=by kernel_rfl
theorem zEh:T zx3=some zDN:=by kernel_rfl
theorem T_x106:T f_x106=some F_x106:=by kernel_rfl
theorem zEi:T zqM=some zn6:=by kernel_rfl
theorem T_x4:T f_x4=some F_x4:=by kernel_rfl
theorem zEj:T zlZ=some zmh:=by kernel_rfl
theorem zEk:T zpx=some zhD:=by kernel_rfl
theorem zEl:T zta=some zpC:=by kernel_rfl
theorem zAg:T zdG=some zfJ:=by kernel_rfl
theorem zHo:T znQ=some zq0:=by kernel_rfl
theorem zHp:T znR=some zuc:=by kernel_rfl
theorem zHq:T zqN=some zud:=by kernel_rfl
theorem zHr:T zx4=some zue:=by kernel_rfl
theorem zHs:T zqO=some zuf:=by kernel_rfl
theorem zHt:T ztb=some zug:=by kernel_rfl
theorem zEm:T zpy=some zdw:=by kernel_rfl
theorem zHu:T zqP=some zq1:=by kernel_rfl
theorem zHv:T zx6=some zn8:=by kernel_rfl
theorem zHw:T zx7=some zuh:=by kernel_rfl
theorem zHx:T zx8=some zui:=by kernel_rfl
theorem zEn:T zgm=some zml:=by kernel_rfl
theorem zHy:T ztc=some zuj:=by kernel_rfl
end Go.Proofs.YtchjbidfmhmmhaaGreatDoor
