/- Own work: the zaO machine and what it shows,part Fun. -/
import Derived.Test.YtchjbidfmhmmhaaGreatDoorChecked
import Derived.Test.YtchjbidfmhmmhaaGreatDoorShT
import Derived.Test.YtchjbidfmhmmhaaGreatDoorLib
set_option linter.all false
namespace Go.Proofs.YtchjbidfmhmmhaaGreatDoor
open Go.Sh
set_option maxRecDepth 100000
abbrev zlR:Nat:=5
abbrev zwV:Nat:=10
abbrev zsk:Nat:=12
abbrev zsl:Nat:=13
abbrev zp2:Nat:=14
abbrev zia:Nat:=15
abbrev zny:Nat:=16
abbrev zwW:Nat:=22
abbrev zsm:Nat:=23
abbrev zsn:Nat:=24
abbrev zso:Nat:=25
abbrev zp3:Nat:=26
abbrev zsp:Nat:=27
abbrev zp4:Nat:=28
abbrev zp5:Nat:=29
abbrev zBP:Nat:=30
abbrev zsq:Nat:=31
abbrev zsr:Nat:=33
abbrev zp6:Nat:=37
abbrev znz:Nat:=38
abbrev zss:Nat:=39
abbrev zBQ:Nat:=40
abbrev zst:Nat:=41
abbrev zp7:Nat:=43
abbrev zwX:Nat:=47
abbrev zhI:Nat:=48
abbrev zsu:Nat:=49
abbrev zwY:Nat:=50
abbrev zEh:Nat:=51
abbrev znA:Nat:=52
abbrev zjj:Nat:=53
abbrev zwZ:Nat:=54
abbrev zo7:Nat:=55
abbrev znB:Nat:=56
abbrev zzJ:Nat:=57
abbrev zw0:Nat:=58
abbrev zsv:Nat:=59
abbrev zBR:Nat:=60
abbrev zfi:Nat:=61
abbrev zw1:Nat:=62
abbrev f_x22:Nat:=63
abbrev zsw:Nat:=65
abbrev zjk:Nat:=77
abbrev znC:Nat:=78
abbrev zkF:Nat:=79
abbrev zsx:Nat:=80
abbrev zsy:Nat:=81
abbrev zsz:Nat:=82
abbrev zw2:Nat:=83
abbrev zlS:Nat:=84
abbrev zw3:Nat:=85
abbrev zw4:Nat:=86
abbrev zsA:Nat:=88
abbrev zp8:Nat:=89
abbrev zsB:Nat:=90
abbrev zp9:Nat:=91
abbrev zsC:Nat:=94
abbrev zw5:Nat:=95
abbrev zo8:Nat:=96
abbrev zo9:Nat:=97
abbrev zEi:Nat:=98
abbrev zEj:Nat:=99
abbrev zqa:Nat:=100
abbrev zlT:Nat:=101
abbrev f_x2:Nat:=102
abbrev f_x0:Nat:=103
abbrev zqb:Nat:=106
abbrev zw6:Nat:=107
abbrev f_x73:Nat:=108
abbrev f_x71:Nat:=109
abbrev zsD:Nat:=110
abbrev zw7:Nat:=111
abbrev zsE:Nat:=112
abbrev f_x1:Nat:=115
abbrev zw8:Nat:=116
abbrev zqc:Nat:=117
abbrev zsF:Nat:=118
abbrev zzK:Nat:=128
abbrev zsG:Nat:=129
abbrev zsH:Nat:=130
abbrev zw9:Nat:=131
abbrev zxa:Nat:=132
abbrev zxb:Nat:=135
abbrev zEk:Nat:=136
abbrev f_x3:Nat:=137
abbrev zxc:Nat:=140
abbrev f_x88:Nat:=141
abbrev zqd:Nat:=142
abbrev f_x4:Nat:=153
abbrev zsI:Nat:=154
abbrev zxd:Nat:=155
abbrev zzL:Nat:=156
abbrev zgY:Nat:=157
abbrev zzM:Nat:=162
abbrev zxe:Nat:=164
abbrev zzN:Nat:=165
abbrev zxf:Nat:=166
abbrev znD:Nat:=167
abbrev zxg:Nat:=171
abbrev zBd:Nat:=172
abbrev zxh:Nat:=173
abbrev zxi:Nat:=194
abbrev znE:Nat:=196
abbrev zkG:Nat:=197
def zBS:ICode:=oR [oV 2 (.bool false)] (.seq (oR [oO 6 (.call zwW) [],oO 7 (.un .not) [s_ 6]] (oT 7 (oR [oV 2 (.bool false)] .ret))) (.seq (oR [oI 8 0,oO 9 (.call zsm) [s_ 8],oO 10 (.un .not) [s_ 9]] (oT 10 (oR [oV 2 (.bool true)] .ret))) (oR [oI 12 0,oO 13 (.call zsl) [s_ 12],oI 11 13,oO 14 (.extract 0) [s_ 11],oO 15 (.extract 1) [s_ 11],oO 4 (.allocL [n_ 0,n_ 0,n_ 0,n_ 0,n_ 0,n_ 0,n_ 0,n_ 0,n_ 0,n_ 0,n_ 0,n_ 0,n_ 0,n_ 0,n_ 0,n_ 0]) [],oI 3 14,oS 16 4 15] (oR [oI 16 3,oO 17 (.call zsn) [s_ 16],oI 5 17] (oR [oI 18 5,oO 19 (.call zp3) [s_ 18],oI 20 3,oO 21 (.call zsp) [s_ 20],oO 22 (.call zso) [s_ 19,s_ 21],oI 23 22,oG 23 (oI 24 5),oG 23 (oO 25 (.call zp4) [s_ 24]),oG 23 (oI 26 3),oG 23 (oO 27 (.call zp5) [s_ 26]),oG 23 (oO 28 (.call zso) [s_ 25,s_ 27]),oP 29 23 28,oI 2 29] .ret)))))
def zsJ:IFun:=⟨30,[.slot 2],zBS,6,0,za2⟩
theorem zdq:za8 Tryz.prog [1048580,2097174,2097178,2097179,2097177,2097180,2097181] 0 zlR=some zsJ:=by kernel_rfl
def zBT:ICode:=oR [oO 1 .boxL [s_ 0],oV 2 (.bool false)] (oR [oF 3 19 1,oF 4 1 3,oL 5 1 4,oO 6 .lenstr [s_ 5],oF 7 19 1,oF 8 2 7,oL 9 1 8,oO 10 .lenstr [s_ 9],oB 11 .add 6 10,oF 12 19 1,oF 13 3 12,oL 14 1 13,oO 15 .lenstr [s_ 14],oB 16 .add 11 15,oF 17 19 1,oF 18 4 17,oL 19 1 18,oO 20 .lenstr [s_ 19],oB 21 .add 16 20,oF 22 24 1,oF 23 2 22,oL 24 1 23,oO 25 .lenstr [s_ 24],oB 26 .add 21 25,oC 27 .leq 26 300,oI 2 27] .ret)
def zsK:IFun:=⟨28,[.slot 2],zBT,6,0,za2⟩
theorem zey:za8 Tryz.prog [1048577] 0 zwV=some zsK:=by kernel_rfl
def zjl:ICode:=oR [oO 1 .boxL [s_ 0],oV 2 (.bool false)] (.seq (oR [oF 5 0 1,oL 6 1 5] (.block 0 (oR [oC 8 .eql 6 0,oI 7 8] (.cond (s_ 7) (oR [oF 9 1 1,oL 10 1 9,oC 11 .eql 10 0,oI 12 11,oG 12 (oF 13 2 1),oG 12 (oL 14 1 13),oG 12 (oO 15 (.bin .eql) [s_ 14,.val (.str ⟨#[]⟩)]),oP 16 12 15,oI 2 16] .ret) (oR [oC 18 .eql 6 1,oI 17 18] (.cond (s_ 17) (oR [oF 19 1 1,oL 20 1 19,oC 21 .eql 20 0,oI 22 21,oH 22 (oF 23 1 1),oH 22 (oL 24 1 23),oH 22 (oC 25 .eql 24 1),oQ 26 22 25,oI 27 26,oG 27 (oF 28 2 1),oG 27 (oL 29 1 28),oG 27 (oO 30 (.bin .eql) [s_ 29,.val (.str ⟨#[]⟩)]),oP 31 27 30,oI 2 31] .ret) (oR [oC 33 .eql 6 2,oI 32 33] (.cond (s_ 32) (oR [oF 34 1 1,oL 35 1 34,oC 36 .geq 35 (-1099511627776),oI 37 36,oG 37 (oF 38 1 1),oG 37 (oL 39 1 38),oG 37 (oC 40 .leq 39 1099511627776),oP 41 37 40,oI 42 41,oG 42 (oF 43 2 1),oG 42 (oL 44 1 43),oG 42 (oO 45 (.bin .eql) [s_ 44,.val (.str ⟨#[]⟩)]),oP 46 42 45,oI 2 46] .ret) (oR [oC 48 .eql 6 3,oI 47 48] (.cond (s_ 47) (oR [oF 49 1 1,oL 50 1 49,oC 51 .eql 50 0,oI 52 51,oG 52 (oF 53 2 1),oG 52 (oL 54 1 53),oG 52 (oO 55 (.call zwX) [s_ 54]),oP 56 52 55,oI 2 56] .ret) (oR [oC 58 .eql 6 4,oI 57 58] (.cond (s_ 57) (oR [oF 59 1 1,oL 60 1 59,oC 61 .eql 60 0,oI 62 61,oG 62 (oF 63 2 1),oG 62 (oL 64 1 63),oG 62 (oO 65 (.call zhI) [s_ 64]),oP 66 62 65,oI 2 66] .ret) (oR [oC 68 .eql 6 5,oI 67 68] (oT 67 (oR [oF 70 2 1,oL 71 1 70,oO 72 (.call zsu) [s_ 71],oI 69 72,oO 73 (.extract 0) [s_ 69],oO 74 (.extract 1) [s_ 69],oO 3 (.allocL [.str ⟨#[]⟩,.str ⟨#[]⟩,.str ⟨#[]⟩]) [],oS 3 3 73,oI 4 74] (oR [oF 75 1 1,oL 76 1 75,oC 77 .eql 76 0,oI 78 77,oG 78 (oI 79 4),oP 80 78 79,oI 2 80] .ret)))))))))))))))) (oR [oV 2 (.bool false)] .ret))
def zgZ:IFun:=⟨81,[.slot 2],zjl,6,0,za2⟩
theorem zez:za8 Tryz.prog [1048577,1048579,2097201] 0 zsk=some zgZ:=by kernel_rfl
def zsL:ICode:=oR [oC 32 .lss 31 16] (.seq (oE 32 2) (.seq (.block 3 (oR [oI 33 31,oI 9 33] (.region [oI 34 8,oI 35 34,oG 35 (oI 36 9),oG 35 (oF 37 2 7),oG 35 (oO 38 (.ixaddrA 16 1) [s_ 37,s_ 36]),oK 7 (oG 35 (oL 39 1 38)),oG 35 (oI 40 9),oG 35 (oO 41 (.ixaddrA 16 1) [s_ 5,s_ 40]),oK 5 (oG 35 (oL 42 1 41)),oG 35 (oB 43 .leq 39 42),oP 44 35 43,oI 8 44]))) (.region [oC 45 .add 31 1,oI 31 45])))
def zsM:ICode:=oR [oB 13 .lss 12 11] (.seq (oE 13 0) (.seq (.block 1 (oR [oX 14 27 10 12,oM 15 27 14,oO 7 (.allocL [n_ 0,n_ 0,n_ 0,n_ 0,n_ 0,n_ 0,n_ 0,n_ 0,n_ 0,n_ 0,n_ 0,n_ 0,n_ 0,n_ 0,n_ 0,n_ 0,n_ 0,n_ 0,n_ 0,n_ 0,.str ⟨#[]⟩,.str ⟨#[]⟩,.str ⟨#[]⟩,.str ⟨#[]⟩,n_ 0,n_ 0,.str ⟨#[]⟩]) [],oS 27 7 15] (.seq (oR [oK 7 (oM 16 27 7),oO 17 (.call zwY) [s_ 16],oO 18 (.un .not) [s_ 17],oI 19 18,oH 19 (oF 20 0 7),oH 19 (oF 21 0 20),oK 7 (oH 19 (oL 22 1 21)),oH 19 (oO 23 (.ixaddrA 16 1) [s_ 5,s_ 22]),oK 5 (oH 19 (oL 24 1 23)),oH 19 (oF 25 0 7),oH 19 (oF 26 1 25),oK 7 (oH 19 (oL 27 1 26)),oH 19 (oC 28 .sub 27 1),oH 19 (oB 29 .neq 24 28),oQ 30 19 29] (oT 30 (.exit 1))) (oR [oV 8 (.bool true)] (.seq (oR [oV 31 (n_ 0)] (.block 2 (.loop zsL))) (oR [oI 46 8] (oT 46 (oR [oI 47 4,oM 48 27 7,oO 49 (.buildSl 27 1 (.agg [n_ 0,n_ 0,n_ 0,n_ 0,n_ 0,n_ 0,n_ 0,n_ 0,n_ 0,n_ 0,n_ 0,n_ 0,n_ 0,n_ 0,n_ 0,n_ 0,n_ 0,n_ 0,n_ 0,n_ 0,.str ⟨#[]⟩,.str ⟨#[]⟩,.str ⟨#[]⟩,.str ⟨#[]⟩,n_ 0,n_ 0,.str ⟨#[]⟩]) [0]) [s_ 48],oO 50 (.append 36 27 256) [s_ 47,s_ 49],oI 4 50] (.region [oF 51 0 7,oF 52 0 51,oL 53 1 52,oF 54 0 7,oF 55 1 54,oL 56 1 55,oO 57 (.ixaddrA 16 1) [s_ 5,s_ 53],oS 1 57 56]))))))))) (.region [oC 58 .add 12 1,oI 12 58])))
def zBU:ICode:=oR [oV 2 .nilsl,oO 3 (.allocL [n_ 0,n_ 0,n_ 0,n_ 0,n_ 0,n_ 0,n_ 0,n_ 0,n_ 0,n_ 0,n_ 0,n_ 0,n_ 0,n_ 0,n_ 0,n_ 0]) []] (oR [oV 4 .nilsl] (oR [oO 5 (.allocL [n_ 0,n_ 0,n_ 0,n_ 0,n_ 0,n_ 0,n_ 0,n_ 0,n_ 0,n_ 0,n_ 0,n_ 0,n_ 0,n_ 0,n_ 0,n_ 0]) []] (.seq (oR [oI 10 0,oO 11 .lensl [s_ 10],oV 12 (n_ 0)] (.block 0 (.loop zsM))) (oR [oI 59 4,oK 5 (oM 60 16 5),oI 2 59,oK 3 (oS 16 3 60)] .ret))))
def zsN:IFun:=⟨61,[.slot 2,.cell 3 16 true],zBU,6,0,za2⟩
theorem zem:za8 Tryz.prog [1048579,1048581,1048583] 0 zsl=some zsN:=by kernel_rfl
def zBV:ICode:=oR [oV 0 .nilptr] (oR [oO 1 (.mkmap true [(.int .i64),.str,.str,.str,.str]) [],oO 2 (.build [.nilmap] [(0,1)]) [s_ 1],oO 3 (.boxH 92) [s_ 2],oI 0 3] .ret)
def zsO:IFun:=⟨4,[.slot 0],zBV,6,0,za2⟩
theorem znF:za8 Tryz.prog [3] 0 zp2=some zsO:=by kernel_rfl
def zBW:ICode:=oR [oO 3 (.boxH 36) [s_ 1],oV 4 (n_ 0)] (.seq (oR [oI 9 0,oO 10 (.eq1 false .ptr) [s_ 9,.val .nilptr],oI 11 10,oH 11 (oM 12 27 3),oH 11 (oO 13 (.call zEh) [s_ 12]),oH 11 (oC 14 .neq 13 0),oQ 15 11 14] (oT 15 (oR [oV 4 (n_ 1)] .ret))) (oR [oI 16 0,oO 17 .nilchk [s_ 16],oF 18 0 17,⟨some 19,none,.load 1 false,[s_ 18],(some (.heap))⟩,oF 20 19 3,⟨some 21,none,.load 5 true,[s_ 20],(some (.heap))⟩,oO 22 (.mlook true [(.int .i64),.str,.str,.str,.str] .nilsl false) [s_ 19,s_ 21],oO 5 .freeze [s_ 22]] (.seq (oR [oF 23 18 3,oL 24 1 23,oC 25 .neq 24 1] (oT 25 (.region [oI 26 5,oO 27 (.call zjj) [s_ 26],oO 28 (.mkfunc zwZ 0) [s_ 3],oO 29 (.call znA) [s_ 27,s_ 28],oO 5 .freeze [s_ 29]]))) (.seq (oR [oF 30 18 3,oL 31 1 30,oC 32 .eql 31 1,oI 33 32,oH 33 (oF 34 18 3),oH 33 (oL 35 1 34),oH 33 (oC 36 .eql 35 3),oQ 37 33 36] (oT 37 (oR [oF 38 0 3,oM 39 2 38,oF 40 24 3,oM 41 3 40,oO 42 (.build [n_ 0,n_ 0,n_ 0,n_ 0,.str ⟨#[]⟩] [(0,2),(2,3)]) [s_ 39,s_ 41],oO 6 (.allocL [n_ 0,n_ 0,n_ 0,n_ 0,.str ⟨#[]⟩]) [],oS 5 6 42] (oR [oI 44 5,oM 45 5 6,oO 46 (.call znB) [s_ 44,s_ 45,.val (.func 57 [] [])],oI 43 46,oO 47 (.extract 0) [s_ 43],oO 48 (.extract 1) [s_ 43],oI 7 47,oI 8 48] (.region [oI 49 5,oO 50 (.call zjj) [s_ 49],oI 51 7,oK 6 (oM 52 5 6),oO 53 (.buildSl 5 1 (.agg [n_ 0,n_ 0,n_ 0,n_ 0,.str ⟨#[]⟩]) [0]) [s_ 52],oO 54 (.call zw0) [s_ 50,s_ 51,s_ 53],oO 5 .freeze [s_ 54]]))))) (oR [oI 55 0,oF 56 19 3,oM 57 5 56,oI 58 5,oO 59 (.call zsv) [s_ 55,s_ 57,s_ 58]] (oR [oV 4 (n_ 0)] .ret))))))
def zsP:IFun:=⟨60,[.slot 4],zBW,6,0,za2⟩
theorem zhJ:za8 Tryz.prog [3,1048582,8388613] 0 zia=some zsP:=by kernel_rfl
def zsQ:ICode:=oR [oB 20 .lss 19 18] (.seq (oE 20 0) (.seq (.block 1 (oR [oX 21 6 17 19,oM 22 6 21,oO 5 (.allocL [n_ 0,.str ⟨#[]⟩,.str ⟨#[]⟩,.str ⟨#[]⟩,.str ⟨#[]⟩,.nilsl]) [],oS 6 5 22] (.region [oI 23 3,oI 24 0,oF 25 0 5,oM 26 5 25,oO 27 (.call zfi) [s_ 23,s_ 24,s_ 26]]))) (.region [oC 28 .add 19 1,oI 19 28])))
def zsR:ICode:=oR [oB 40 .lss 39 38] (.seq (oE 40 2) (.seq (.block 3 (oR [oX 41 3 37 39,oM 42 3 41,oO 7 (.allocL [.str ⟨#[]⟩,.str ⟨#[]⟩,.str ⟨#[]⟩]) [],oS 3 7 42] (oR [oI 43 3,oO 44 .nilchk [s_ 43],oF 45 3 44,⟨some 46,none,.load 1 false,[s_ 45],(some (.heap))⟩,oF 47 0 7,oK 7 (oL 48 1 47),oI 49 3,oO 50 .nilchk [s_ 49],oF 51 3 50,⟨some 52,none,.load 1 false,[s_ 51],(some (.heap))⟩,oF 53 0 7,oK 7 (oL 54 1 53),oO 55 (.mlook false [.str] .nilsl false) [s_ 52,s_ 54],oK 7 (oM 56 3 7),oO 57 (.buildSl 3 1 (.agg [.str ⟨#[]⟩,.str ⟨#[]⟩,.str ⟨#[]⟩]) [0]) [s_ 56],oO 58 (.appendT 73 3 48) [s_ 55,s_ 57],⟨none,none,.mset false [.str],[s_ 46,s_ 48,s_ 58],none⟩] (.region [oI 59 3,oO 60 .nilchk [s_ 59],oF 61 4 60,⟨some 62,none,.load 1 false,[s_ 61],(some (.heap))⟩,oF 63 1 7,oK 7 (oL 64 1 63),oI 65 3,oO 66 .nilchk [s_ 65],oF 67 4 66,⟨some 68,none,.load 1 false,[s_ 67],(some (.heap))⟩,oF 69 1 7,oK 7 (oL 70 1 69),oO 71 (.mlook false [.str] .nilsl false) [s_ 68,s_ 70],oK 7 (oM 72 3 7),oO 73 (.buildSl 3 1 (.agg [.str ⟨#[]⟩,.str ⟨#[]⟩,.str ⟨#[]⟩]) [0]) [s_ 72],oO 74 (.appendT 73 3 48) [s_ 71,s_ 73],⟨none,none,.mset false [.str],[s_ 62,s_ 64,s_ 74],none⟩])))) (.region [oC 75 .add 39 1,oI 39 75])))
def zBX:ICode:=oR [oV 2 .nilptr] (oR [oO 8 (.mkmap false [.str]) [],oO 9 (.mkmap false [.str]) [],oO 10 (.mkmap false [.str]) [],oO 11 (.mkmap true [(.int .i64),.str,.str,.str,.str]) [],oO 12 (.mkmap true [(.int .i64),.str,.str,.str,.str]) [],oO 13 (.mkmap true [(.int .i64),.str,.str,.str,.str]) [],oO 14 (.build [.nilsl,.nilsl,.nilmap,.nilmap,.nilmap,.nilmap,.nilmap,.nilmap] [(2,1),(3,1),(4,1),(5,1),(6,1),(7,1)]) [s_ 8,s_ 9,s_ 10,s_ 11,s_ 12,s_ 13],oO 15 (.boxH 111) [s_ 14],oI 3 15] (.seq (oR [oI 16 0,oO 17 (.call zBR) [s_ 16],oO 18 .lensl [s_ 17],oV 19 (n_ 0)] (.block 0 (.loop zsQ))) (oR [oI 29 3,oO 30 .nilchk [s_ 29],oF 31 1 30,oL 32 1 31,oO 33 (.call zw1) [s_ 32,.val (.func 63 [] [])]] (.seq (oR [oI 34 3,oO 35 .nilchk [s_ 34],oF 36 1 35,oO 37 .loadF [s_ 36],oO 38 .lensl [s_ 37],oV 39 (n_ 0)] (.block 2 (.loop zsR))) (oR [oI 76 3,oI 2 76] .ret)))))
def zsS:IFun:=⟨77,[.slot 2],zBX,6,0,za2⟩
theorem zqe:za8 Tryz.prog [15,1048581,1048583,33554432,8388645] 0 zny=some zsS:=by kernel_rfl
def zES:ICode:=oR [oV 0 (.bool false)] (oR [oO 7 (.call zp2) [],oI 1 7] (oR [oI 8 1,oO 9 (.build [n_ 0,n_ 0] [(1,1)]) [.val (n_ 1)],oO 10 (.build [n_ 0,.str ⟨#[]⟩,.str ⟨#[]⟩,.str ⟨#[]⟩,.str ⟨#[]⟩] [(0,1),(1,1)]) [.val (n_ 1),.val (.str ⟨#[97]⟩)],oO 11 (.build [n_ 0,n_ 0,n_ 0,n_ 0,n_ 0,n_ 0,n_ 0,n_ 0,n_ 0,n_ 0,n_ 0,n_ 0,n_ 0,n_ 0,n_ 0,n_ 0,n_ 0,n_ 0,n_ 0,n_ 0,.str ⟨#[]⟩,.str ⟨#[]⟩,.str ⟨#[]⟩,.str ⟨#[]⟩,n_ 0,n_ 0,.str ⟨#[]⟩] [(0,2),(18,1),(19,5)]) [s_ 9,.val (n_ 1),s_ 10],oO 12 (.call zia) [s_ 8,s_ 11]] (oR [oI 13 1,oO 14 (.build [n_ 0,n_ 0] [(1,1)]) [.val (n_ 2)],oO 15 (.build [n_ 0,n_ 0,n_ 0,n_ 0,n_ 0,n_ 0,n_ 0,n_ 0,n_ 0,n_ 0,n_ 0,n_ 0,n_ 0,n_ 0,n_ 0,n_ 0] [(0,1)]) [.val (n_ 1)],oO 16 (.build [n_ 0,.str ⟨#[]⟩,.str ⟨#[]⟩,.str ⟨#[]⟩,.str ⟨#[]⟩] [(0,1),(1,1),(4,1)]) [.val (n_ 2),.val (.str ⟨#[97]⟩),.val (.str ⟨#[80]⟩)],oO 17 (.build [n_ 0,n_ 0,n_ 0,n_ 0,n_ 0,n_ 0,n_ 0,n_ 0,n_ 0,n_ 0,n_ 0,n_ 0,n_ 0,n_ 0,n_ 0,n_ 0,n_ 0,n_ 0,n_ 0,n_ 0,.str ⟨#[]⟩,.str ⟨#[]⟩,.str ⟨#[]⟩,.str ⟨#[]⟩,n_ 0,n_ 0,.str ⟨#[]⟩] [(0,2),(2,16),(18,1),(19,5)]) [s_ 14,s_ 15,.val (n_ 1),s_ 16],oO 18 (.call zia) [s_ 13,s_ 17]] (oR [oI 19 1,oO 20 (.build [n_ 0,n_ 0] [(1,1)]) [.val (n_ 3)],oO 21 (.build [n_ 0,n_ 0,n_ 0,n_ 0,n_ 0,n_ 0,n_ 0,n_ 0,n_ 0,n_ 0,n_ 0,n_ 0,n_ 0,n_ 0,n_ 0,n_ 0] [(0,1)]) [.val (n_ 2)],oO 22 (.build [n_ 0,.str ⟨#[]⟩,.str ⟨#[]⟩,.str ⟨#[]⟩,.str ⟨#[]⟩] [(0,1),(1,1),(2,1),(3,1)]) [.val (n_ 3),.val (.str ⟨#[97]⟩),.val (.str ⟨#[98]⟩),.val (.str ⟨#[75]⟩)],oO 23 (.build [n_ 0,n_ 0,n_ 0,n_ 0,n_ 0,n_ 0,n_ 0,n_ 0,n_ 0,n_ 0,n_ 0,n_ 0,n_ 0,n_ 0,n_ 0,n_ 0,n_ 0,n_ 0,n_ 0,n_ 0,.str ⟨#[]⟩,.str ⟨#[]⟩,.str ⟨#[]⟩,.str ⟨#[]⟩,n_ 0,n_ 0,.str ⟨#[]⟩] [(0,2),(2,16),(18,1),(19,5)]) [s_ 20,s_ 21,.val (n_ 1),s_ 22],oO 24 (.call zia) [s_ 19,s_ 23]] (oR [oI 25 1,oO 26 (.call zny) [s_ 25],oI 2 26] (oR [oI 27 2,oO 28 (.call zsq) [s_ 27],oO 29 .lensl [s_ 28],oI 3 29] (oR [oI 30 1,oO 31 (.build [n_ 0,n_ 0] [(1,1)]) [.val (n_ 4)],oO 32 (.build [n_ 0,n_ 0,n_ 0,n_ 0,n_ 0,n_ 0,n_ 0,n_ 0,n_ 0,n_ 0,n_ 0,n_ 0,n_ 0,n_ 0,n_ 0,n_ 0] [(0,1)]) [.val (n_ 3)],oO 33 (.build [n_ 0,.str ⟨#[]⟩,.str ⟨#[]⟩,.str ⟨#[]⟩,.str ⟨#[]⟩] [(0,1),(1,1)]) [.val (n_ 1),.val (.str ⟨#[98]⟩)],oO 34 (.build [n_ 0,n_ 0,n_ 0,n_ 0,n_ 0,n_ 0,n_ 0,n_ 0,n_ 0,n_ 0,n_ 0,n_ 0,n_ 0,n_ 0,n_ 0,n_ 0,n_ 0,n_ 0,n_ 0,n_ 0,.str ⟨#[]⟩,.str ⟨#[]⟩,.str ⟨#[]⟩,.str ⟨#[]⟩,n_ 0,n_ 0,.str ⟨#[]⟩] [(0,2),(2,16),(18,1),(19,5)]) [s_ 31,s_ 32,.val (n_ 1),s_ 33],oO 35 (.call zia) [s_ 30,s_ 34]] (oR [oI 36 1,oO 37 (.call zny) [s_ 36],oI 4 37] (oR [oI 38 4,oO 39 (.call zp3) [s_ 38],oI 5 39] (oR [oV 6 .nilptr] (oR [oI 40 2,oO 41 (.call zBP) [s_ 40,.val (.str ⟨#[97]⟩)],oI 42 41,oG 42 (oI 43 3),oG 42 (oC 44 .eql 43 0),oP 45 42 44,oI 46 45,oG 46 (oI 47 4),oG 46 (oO 48 (.build [.str ⟨#[]⟩,.str ⟨#[]⟩,.str ⟨#[]⟩] [(0,1),(1,1),(2,1)]) [.val (.str ⟨#[97]⟩),.val (.str ⟨#[98]⟩),.val (.str ⟨#[75]⟩)]),oG 46 (oO 49 (.call zBQ) [s_ 47,s_ 48]),oP 50 46 49,oI 51 50,oG 51 (oI 52 5),oG 51 (oO 53 .lensl [s_ 52]),oG 51 (oC 54 .eql 53 3),oP 55 51 54,oI 56 55,oG 56 (oI 57 5),oG 56 (oO 58 (.ixaddr 1) [s_ 57,.val (n_ 0)]),oG 56 (oL 59 1 58),oG 56 (oO 60 (.bin .eql) [s_ 59,.val (.str ⟨#[110,111,100,101,32,97,32,80]⟩)]),oP 61 56 60,oI 62 61,oG 62 (oI 63 5),oG 62 (oO 64 (.ixaddr 1) [s_ 63,.val (n_ 2)]),oG 62 (oL 65 1 64),oG 62 (oO 66 (.bin .eql) [s_ 65,.val (.str ⟨#[101,100,103,101,32,97,32,75,32,98]⟩)]),oP 67 62 66,oI 68 67,oG 68 (oI 69 6),oG 68 (oO 70 (.call zp4) [s_ 69]),oG 68 (oO 71 .lensl [s_ 70]),oG 68 (oC 72 .eql 71 0),oP 73 68 72,oI 74 73,oG 74 (oO 75 (.call zjk) [.val (.str ⟨#[97]⟩)]),oG 74 (oO 76 (.build [n_ 0,.str ⟨#[]⟩,.str ⟨#[]⟩,.str ⟨#[]⟩,.str ⟨#[]⟩] [(0,1),(1,1)]) [.val (n_ 1),.val (.str ⟨#[97]⟩)]),oG 74 (oO 77 (.eqv false [(.int .i64),.str,.str,.str,.str]) [s_ 75,s_ 76]),oP 78 74 77,oI 79 78,oG 79 (oO 80 (.build [.str ⟨#[]⟩,.str ⟨#[]⟩,.str ⟨#[]⟩] [(0,1),(1,1),(2,1)]) [.val (.str ⟨#[97]⟩),.val (.str ⟨#[98]⟩),.val (.str ⟨#[75]⟩)]),oG 79 (oO 81 (.call znC) [s_ 80]),oG 79 (oO 82 (.build [n_ 0,.str ⟨#[]⟩,.str ⟨#[]⟩,.str ⟨#[]⟩,.str ⟨#[]⟩] [(0,1),(1,1),(2,1),(3,1)]) [.val (n_ 3),.val (.str ⟨#[97]⟩),.val (.str ⟨#[98]⟩),.val (.str ⟨#[75]⟩)]),oG 79 (oO 83 (.eqv false [(.int .i64),.str,.str,.str,.str]) [s_ 81,s_ 82]),oP 84 79 83,oI 0 84] .ret)))))))))))
def zBY:IFun:=⟨85,[.slot 0],zES,6,2,za2⟩
theorem zeA:za8 Tryz.prog [2097183,2097178,2097182,2097192,2097180,2097229,2097230] 2 zwW=some zBY:=by kernel_rfl
def zzb:ICode:=oR [oB 8 .lss 7 6] (.seq (oE 8 0) (.seq (.block 1 (oR [oX 9 27 5 7,oM 10 27 9,oO 4 (.allocL [n_ 0,n_ 0,n_ 0,n_ 0,n_ 0,n_ 0,n_ 0,n_ 0,n_ 0,n_ 0,n_ 0,n_ 0,n_ 0,n_ 0,n_ 0,n_ 0,n_ 0,n_ 0,n_ 0,n_ 0,.str ⟨#[]⟩,.str ⟨#[]⟩,.str ⟨#[]⟩,.str ⟨#[]⟩,n_ 0,n_ 0,.str ⟨#[]⟩]) [],oS 27 4 10] (oR [oM 11 27 4,oO 12 (.call zwV) [s_ 11],oO 13 (.un .not) [s_ 12]] (oT 13 (oR [oV 2 (.bool false)] .ret))))) (.region [oC 14 .add 7 1,oI 7 14])))
def zBZ:ICode:=oR [oV 2 (.bool false)] (.seq (oR [oI 5 0,oO 6 .lensl [s_ 5],oV 7 (n_ 0)] (.block 0 (.loop zzb))) (oR [oI 15 0,oO 16 .lensl [s_ 15],oC 17 .leq 16 50,oI 2 17] .ret))
def zsT:IFun:=⟨18,[.slot 2],zBZ,6,0,za2⟩
theorem zfK:za8 Tryz.prog [1048580] 0 zsm=some zsT:=by kernel_rfl
def zsU:ICode:=oR [oB 10 .lss 9 8] (.seq (oE 10 0) (.seq (.block 1 (oR [oX 11 27 7 9,oM 12 27 11,oO 5 (.allocL [n_ 0,n_ 0,n_ 0,n_ 0,n_ 0,n_ 0,n_ 0,n_ 0,n_ 0,n_ 0,n_ 0,n_ 0,n_ 0,n_ 0,n_ 0,n_ 0,n_ 0,n_ 0,n_ 0,n_ 0,.str ⟨#[]⟩,.str ⟨#[]⟩,.str ⟨#[]⟩,.str ⟨#[]⟩,n_ 0,n_ 0,.str ⟨#[]⟩]) [],oS 27 5 12] (.region [oI 13 3,oM 14 27 5,oO 15 (.call zia) [s_ 13,s_ 14]]))) (.region [oC 16 .add 9 1,oI 9 16])))
def zB0:ICode:=oR [oV 2 .nilptr] (oR [oO 6 (.call zp2) [],oI 3 6] (.seq (oR [oI 7 0,oO 8 .lensl [s_ 7],oV 9 (n_ 0)] (.block 0 (.loop zsU))) (oR [oI 17 3,oO 18 (.call zny) [s_ 17],oI 2 18] .ret)))
def zsV:IFun:=⟨19,[.slot 2],zB0,6,0,za2⟩
theorem zfj:za8 Tryz.prog [1048581] 0 zsn=some zsV:=by kernel_rfl
def zzc:ICode:=oR [oB 14 .lss 13 12] (.seq (oE 14 0) (.seq (.block 1 (oR [oI 15 13,oI 5 15] (oR [oI 16 0,oI 17 5,oX 18 1 16 17,⟨some 19,none,.load 1 false,[s_ 18],(some (.el))⟩,oI 20 1,oI 21 5,oX 22 1 20 21,⟨some 23,none,.load 1 false,[s_ 22],(some (.el))⟩,oB 24 .neq 19 23] (oT 24 (oR [oV 4 (.bool false)] .ret))))) (.region [oC 25 .add 13 1,oI 13 25])))
def zB1:ICode:=oR [oV 4 (.bool false)] (.seq (oR [oI 6 0,oO 7 .lensl [s_ 6],oI 8 1,oO 9 .lensl [s_ 8],oB 10 .neq 7 9] (oT 10 (oR [oV 4 (.bool false)] .ret))) (.seq (oR [oI 11 0,oO 12 .lensl [s_ 11],oV 13 (n_ 0)] (.block 0 (.loop zzc))) (oR [oV 4 (.bool true)] .ret)))
def zsW:IFun:=⟨26,[.slot 4],zB1,6,1,za2⟩
theorem zfk:za8 Tryz.prog [] 1 zso=some zsW:=by kernel_rfl
def zsX:ICode:=oR [oB 41 .lss 40 39] (.seq (oE 41 2) (.seq (.block 3 (oR [oX 42 1 38 40,oL 43 1 42,oI 7 43] (.region [oI 44 3,oI 45 0,oI 46 5,oI 47 7,oO 48 (.buildSl 1 3 (.str ⟨#[]⟩) [0,1,2]) [.val (.str ⟨#[112,114,111,112]⟩),s_ 46,s_ 47],oI 49 5,oI 50 7,oO 51 (.build [n_ 0,.str ⟨#[]⟩,.str ⟨#[]⟩,.str ⟨#[]⟩,.str ⟨#[]⟩] [(0,1),(1,1),(4,1)]) [.val (n_ 4),s_ 49,s_ 50],oO 52 (.call zsx) [s_ 45,s_ 48,s_ 51],oO 53 (.buildSl 1 1 (.str ⟨#[]⟩) [0]) [s_ 52],oO 54 (.append 9 1 16) [s_ 44,s_ 53],oI 3 54]))) (.region [oC 55 .add 40 1,oI 40 55])))
def zsY:ICode:=oR [oB 16 .lss 15 14] (.seq (oE 16 0) (.seq (.block 1 (oR [oX 17 1 13 15,oL 18 1 17,oI 5 18] (oR [oI 19 3,oI 20 5,oO 21 (.buildSl 1 2 (.str ⟨#[]⟩) [0,1]) [.val (.str ⟨#[110,111,100,101]⟩),s_ 20],oI 22 0,oO 23 .nilchk [s_ 22],oF 24 2 23,oL 25 1 24,oI 26 5,oO 27 (.mlook false [.str] .nilsl false) [s_ 25,s_ 26],oO 28 (.append 9 1 16) [s_ 21,s_ 27],oO 29 (.call zkF) [s_ 28,.val (.str ⟨#[32]⟩)],oO 30 (.buildSl 1 1 (.str ⟨#[]⟩) [0]) [s_ 29],oO 31 (.append 9 1 16) [s_ 19,s_ 30],oI 3 31] (oR [oI 32 0,oO 33 .nilchk [s_ 32],oF 34 6 33,⟨some 35,none,.load 1 false,[s_ 34],(some (.heap))⟩,oI 36 5,oO 37 (.callP zjk) [s_ 36],oO 38 (.mlook true [(.int .i64),.str,.str,.str,.str] .nilsl false) [s_ 35,s_ 37],oO 39 .lensl [s_ 38],oV 40 (n_ 0)] (.block 2 (.loop zsX)))))) (.region [oC 56 .add 15 1,oI 15 56])))
def zsZ:ICode:=oR [oB 84 .lss 83 82] (.seq (oE 84 6) (.seq (.block 7 (oR [oX 85 1 81 83,oL 86 1 85,oI 11 86] (.region [oI 87 3,oI 88 0,oF 89 0 9,oL 90 1 89,oF 91 2 9,oL 92 1 91,oF 93 1 9,oL 94 1 93,oI 95 11,oO 96 (.buildSl 1 5 (.str ⟨#[]⟩) [0,1,2,3,4]) [.val (.str ⟨#[116,114,97,105,116]⟩),s_ 90,s_ 92,s_ 94,s_ 95],oF 97 0 9,oL 98 1 97,oF 99 1 9,oL 100 1 99,oF 101 2 9,oL 102 1 101,oI 103 11,oO 104 (.build [n_ 0,.str ⟨#[]⟩,.str ⟨#[]⟩,.str ⟨#[]⟩,.str ⟨#[]⟩] [(0,1),(1,1),(2,1),(3,1),(4,1)]) [.val (n_ 5),s_ 98,s_ 100,s_ 102,s_ 103],oO 105 (.call zsx) [s_ 88,s_ 96,s_ 104],oO 106 (.buildSl 1 1 (.str ⟨#[]⟩) [0]) [s_ 105],oO 107 (.append 9 1 16) [s_ 87,s_ 106],oI 3 107]))) (.region [oC 108 .add 83 1,oI 83 108])))
def zs0:ICode:=oR [oB 61 .lss 60 59] (.seq (oE 61 4) (.seq (.block 5 (oR [oX 62 3 58 60,oM 63 3 62,oO 9 (.allocL [.str ⟨#[]⟩,.str ⟨#[]⟩,.str ⟨#[]⟩]) [],oS 3 9 63] (oR [oI 64 3,oF 65 0 9,oL 66 1 65,oF 67 2 9,oL 68 1 67,oF 69 1 9,oL 70 1 69,oO 71 (.buildSl 1 4 (.str ⟨#[]⟩) [0,1,2,3]) [.val (.str ⟨#[101,100,103,101]⟩),s_ 66,s_ 68,s_ 70],oO 72 (.call zkF) [s_ 71,.val (.str ⟨#[32]⟩)],oO 73 (.buildSl 1 1 (.str ⟨#[]⟩) [0]) [s_ 72],oO 74 (.append 9 1 16) [s_ 64,s_ 73],oI 3 74] (oR [oI 75 0,oO 76 .nilchk [s_ 75],oF 77 6 76,⟨some 78,none,.load 1 false,[s_ 77],(some (.heap))⟩,oK 9 (oM 79 3 9),oO 80 (.callP znC) [s_ 79],oO 81 (.mlook true [(.int .i64),.str,.str,.str,.str] .nilsl false) [s_ 78,s_ 80],oO 82 .lensl [s_ 81],oV 83 (n_ 0)] (.block 6 (.loop zsZ)))))) (.region [oC 109 .add 60 1,oI 60 109])))
def zB2:ICode:=oR [oV 2 .nilsl] (oR [oV 3 .nilsl] (.seq (oR [oI 12 0,oO 13 (.call zp4) [s_ 12],oO 14 .lensl [s_ 13],oV 15 (n_ 0)] (.block 0 (.loop zsY))) (.seq (oR [oI 57 0,oO 58 (.call zsq) [s_ 57],oO 59 .lensl [s_ 58],oV 60 (n_ 0)] (.block 4 (.loop zs0))) (oR [oI 110 3,oI 2 110] .ret))))
def zs1:IFun:=⟨111,[.slot 2],zB2,6,1,za2⟩
theorem zf8:za8 Tryz.prog [1048585,2097180,2097231,2097229,2097232,2097183,2097230] 1 zp3=some zs1:=by kernel_rfl
def zs2:ICode:=oR [oB 30 .lss 29 28] (.seq (oE 30 2) (.seq (.block 3 (oR [oX 31 1 27 29,oL 32 1 31,oI 8 32] (.region [oI 33 6,oO 34 (.bin .add) [s_ 33,.val (.str ⟨#[32]⟩)],oI 35 8,oB 36 .add 34 35,oI 6 36]))) (.region [oC 37 .add 29 1,oI 29 37])))
def zs3:ICode:=oR [oB 48 .lss 47 46] (.seq (oE 48 4) (.seq (.block 5 (oR [oX 49 1 45 47,oL 50 1 49,oI 10 50] (.region [oI 51 3,oI 52 0,oI 53 5,oO 54 (.bin .add) [.val (.str ⟨#[112,114,111,112,32]⟩),s_ 53],oO 55 (.bin .add) [s_ 54,.val (.str ⟨#[32]⟩)],oI 56 10,oB 57 .add 55 56,oI 58 5,oI 59 10,oO 60 (.build [n_ 0,.str ⟨#[]⟩,.str ⟨#[]⟩,.str ⟨#[]⟩,.str ⟨#[]⟩] [(0,1),(1,1),(4,1)]) [.val (n_ 4),s_ 58,s_ 59],oO 61 (.call zsy) [s_ 52,s_ 57,s_ 60],oO 62 (.buildSl 1 1 (.str ⟨#[]⟩) [0]) [s_ 61],oO 63 (.append 9 1 16) [s_ 51,s_ 62],oI 3 63]))) (.region [oC 64 .add 47 1,oI 47 64])))
def zs4:ICode:=oR [oB 20 .lss 19 18] (.seq (oE 20 0) (.seq (.block 1 (oR [oX 21 1 17 19,oL 22 1 21,oI 5 22] (oR [oI 23 5,oO 24 (.bin .add) [.val (.str ⟨#[110,111,100,101,32]⟩),s_ 23],oI 6 24] (.seq (oR [oI 25 0,oI 26 5,oO 27 (.call zss) [s_ 25,s_ 26],oO 28 .lensl [s_ 27],oV 29 (n_ 0)] (.block 2 (.loop zs2))) (oR [oI 38 3,oI 39 6,oO 40 (.buildSl 1 1 (.str ⟨#[]⟩) [0]) [s_ 39],oO 41 (.append 9 1 16) [s_ 38,s_ 40],oI 3 41] (oR [oI 42 0,oI 43 5,oO 44 (.build [n_ 0,.str ⟨#[]⟩,.str ⟨#[]⟩,.str ⟨#[]⟩,.str ⟨#[]⟩] [(0,1),(1,1)]) [.val (n_ 1),s_ 43],oO 45 (.call zp7) [s_ 42,s_ 44],oO 46 .lensl [s_ 45],oV 47 (n_ 0)] (.block 4 (.loop zs3)))))))) (.region [oC 65 .add 19 1,oI 19 65])))
def zs5:ICode:=oR [oB 94 .lss 93 92] (.seq (oE 94 8) (.seq (.block 9 (oR [oX 95 1 91 93,oL 96 1 95,oI 15 96] (.region [oI 97 3,oI 98 0,oI 99 13,oO 100 (.bin .add) [.val (.str ⟨#[116,114,97,105,116,32]⟩),s_ 99],oO 101 (.bin .add) [s_ 100,.val (.str ⟨#[32]⟩)],oI 102 15,oB 103 .add 101 102,oF 104 0 12,oL 105 1 104,oF 106 1 12,oL 107 1 106,oF 108 2 12,oL 109 1 108,oI 110 15,oO 111 (.build [n_ 0,.str ⟨#[]⟩,.str ⟨#[]⟩,.str ⟨#[]⟩,.str ⟨#[]⟩] [(0,1),(1,1),(2,1),(3,1),(4,1)]) [.val (n_ 5),s_ 105,s_ 107,s_ 109,s_ 110],oO 112 (.call zsy) [s_ 98,s_ 103,s_ 111],oO 113 (.buildSl 1 1 (.str ⟨#[]⟩) [0]) [s_ 112],oO 114 (.append 9 1 16) [s_ 97,s_ 113],oI 3 114]))) (.region [oC 115 .add 93 1,oI 93 115])))
def zs6:ICode:=oR [oB 70 .lss 69 68] (.seq (oE 70 6) (.seq (.block 7 (oR [oX 71 3 67 69,oM 72 3 71,oO 12 (.allocL [.str ⟨#[]⟩,.str ⟨#[]⟩,.str ⟨#[]⟩]) [],oS 3 12 72] (oR [oF 73 0 12,oL 74 1 73,oO 75 (.bin .add) [s_ 74,.val (.str ⟨#[32]⟩)],oF 76 2 12,oL 77 1 76,oB 78 .add 75 77,oO 79 (.bin .add) [s_ 78,.val (.str ⟨#[32]⟩)],oF 80 1 12,oL 81 1 80,oB 82 .add 79 81,oI 13 82] (oR [oI 83 3,oI 84 13,oO 85 (.bin .add) [.val (.str ⟨#[101,100,103,101,32]⟩),s_ 84],oO 86 (.buildSl 1 1 (.str ⟨#[]⟩) [0]) [s_ 85],oO 87 (.append 9 1 16) [s_ 83,s_ 86],oI 3 87] (oR [oI 88 0,oM 89 3 12,oO 90 (.call zsz) [s_ 89],oO 91 (.call zp7) [s_ 88,s_ 90],oO 92 .lensl [s_ 91],oV 93 (n_ 0)] (.block 8 (.loop zs5))))))) (.region [oC 116 .add 69 1,oI 69 116])))
def zB3:ICode:=oR [oV 2 .nilsl] (oR [oV 3 .nilsl] (.seq (oR [oI 16 0,oO 17 (.call zp5) [s_ 16],oO 18 .lensl [s_ 17],oV 19 (n_ 0)] (.block 0 (.loop zs4))) (.seq (oR [oI 66 0,oO 67 (.call zsr) [s_ 66],oO 68 .lensl [s_ 67],oV 69 (n_ 0)] (.block 6 (.loop zs6))) (oR [oI 117 3,oI 2 117] .ret))))
def zs7:IFun:=⟨118,[.slot 2],zB3,6,1,za2⟩
theorem zeB:za8 Tryz.prog [1048588,2097181,2097191,2097195,2097233,2097185,2097234] 1 zsp=some zs7:=by kernel_rfl
def zB4:ICode:=oR [oV 2 .nilsl] (.seq (oR [oI 3 0,oO 4 (.eq1 false .ptr) [s_ 3,.val .nilptr]] (oT 4 (oR [oV 2 .nilsl] .ret))) (oR [oI 5 0,oO 6 .nilchk [s_ 5],oF 7 0 6,oL 8 1 7,oO 9 (.call zw2) [s_ 8],oI 2 9] .ret))
def zs8:IFun:=⟨10,[.slot 2],zB4,6,1,za2⟩
theorem zf9:za8 Tryz.prog [] 1 zp4=some zs8:=by kernel_rfl
def zzd:ICode:=oR [oB 10 .lss 9 8] (.seq (oE 10 0) (.seq (.block 1 (oR [oX 11 5 7 9,oM 12 5 11,oO 5 (.allocL [n_ 0,.str ⟨#[]⟩,.str ⟨#[]⟩,.str ⟨#[]⟩,.str ⟨#[]⟩]) [],oS 5 5 12] (oR [oF 13 0 5,oL 14 1 13,oC 15 .eql 14 1,oI 16 15,oG 16 (oI 17 0),oG 16 (oF 18 1 5),oG 16 (oL 19 1 18),oG 16 (oO 20 (.call znz) [s_ 17,s_ 19]),oP 21 16 20] (oT 21 (.region [oI 22 3,oF 23 1 5,oL 24 1 23,oO 25 (.buildSl 1 1 (.str ⟨#[]⟩) [0]) [s_ 24],oO 26 (.append 9 1 16) [s_ 22,s_ 25],oI 3 26]))))) (.region [oC 27 .add 9 1,oI 9 27])))
def zB5:ICode:=oR [oV 2 .nilsl] (oR [oV 3 .nilsl] (.seq (oR [oI 6 0,oO 7 (.call zlS) [s_ 6],oO 8 .lensl [s_ 7],oV 9 (n_ 0)] (.block 0 (.loop zzd))) (oR [oI 28 3,oI 2 28] .ret)))
def zs9:IFun:=⟨29,[.slot 2],zB5,6,1,za2⟩
theorem zeC:za8 Tryz.prog [1048581,2097190] 1 zp5=some zs9:=by kernel_rfl
def zET:ICode:=oR [oV 4 (.bool false)] (oR [oI 5 0,oO 6 (.eq1 true .ptr) [s_ 5,.val .nilptr],oI 7 6,oG 7 (oI 8 0),oG 7 (oO 9 .nilchk [s_ 8]),oG 7 (oF 10 7 9),⟨some 11,(some (7,true)),.load 1 false,[s_ 10],(some (.heap))⟩,oG 7 (oI 12 1),oG 7 (oO 13 (.callP zjk) [s_ 12]),oG 7 (oO 14 (.mlook true [(.int .i64),.str,.str,.str,.str] (.bool false) false) [s_ 11,s_ 13]),oP 15 7 14,oI 4 15] .ret)
def zB6:IFun:=⟨16,[.slot 4],zET,6,1,za2⟩
theorem zhK:za8 Tryz.prog [2097229] 1 zBP=some zB6:=by kernel_rfl
def zB7:ICode:=oR [oV 2 .nilsl] (.seq (oR [oI 3 0,oO 4 (.eq1 false .ptr) [s_ 3,.val .nilptr]] (oT 4 (oR [oV 2 .nilsl] .ret))) (oR [oI 5 0,oO 6 .nilchk [s_ 5],oF 7 1 6,oL 8 1 7,oO 9 (.call zw3) [s_ 8],oI 2 9] .ret))
def zta:IFun:=⟨10,[.slot 2],zB7,6,1,za2⟩
theorem zga:za8 Tryz.prog [] 1 zsq=some zta:=by kernel_rfl
def zjQ:ICode:=.seq (oR [oI 31 7,oI 32 3,oO 33 .lensl [s_ 32],oB 34 .lss 31 33,oI 35 34,oG 35 (oI 36 3),oG 35 (oI 37 7),oG 35 (oX 38 3 36 37),⟨some 39,(some (35,true)),.load 3 true,[s_ 38],(some (.el))⟩,oK 6 (oG 35 (oM 40 3 6)),oG 35 (oO 41 (.callP zw4) [s_ 39,s_ 40]),oP 42 35 41] (oE 42 2)) (.block 3 (.region [oI 43 7,oC 44 .add 43 1,oI 7 44]))
def ztb:ICode:=oR [oB 12 .lss 11 10] (.seq (oE 12 0) (.seq (.block 1 (oR [oX 13 5 9 11,oM 14 5 13,oO 5 (.allocL [n_ 0,.str ⟨#[]⟩,.str ⟨#[]⟩,.str ⟨#[]⟩,.str ⟨#[]⟩]) [],oS 5 5 14] (oR [oF 15 1 5,oL 16 1 15,oF 17 2 5,oL 18 1 17,oF 19 3 5,oL 20 1 19,oO 21 (.build [.str ⟨#[]⟩,.str ⟨#[]⟩,.str ⟨#[]⟩] [(0,1),(1,1),(2,1)]) [s_ 16,s_ 18,s_ 20],oO 6 (.allocL [.str ⟨#[]⟩,.str ⟨#[]⟩,.str ⟨#[]⟩]) [],oS 3 6 21] (.seq (oR [oF 22 0 5,oL 23 1 22,oC 24 .neq 23 3,oI 25 24,oH 25 (oI 26 0),oH 25 (oM 27 3 6),oH 25 (oO 28 (.call zst) [s_ 26,s_ 27]),oH 25 (oO 29 (.un .not) [s_ 28]),oQ 30 25 29] (oT 30 (.exit 1))) (oR [oV 7 (n_ 0)] (.seq (.block 2 (.loop zjQ)) (.region [oO 45 (.buildSl 3 0 (.agg [.str ⟨#[]⟩,.str ⟨#[]⟩,.str ⟨#[]⟩]) []) [],oI 46 3,oI 47 7,oO 48 (.slsl 3 false true false) [s_ 46,s_ 47],oO 49 (.append 73 3 48) [s_ 45,s_ 48],oK 6 (oM 50 3 6),oO 51 (.buildSl 3 1 (.agg [.str ⟨#[]⟩,.str ⟨#[]⟩,.str ⟨#[]⟩]) [0]) [s_ 50],oO 52 (.append 73 3 48) [s_ 49,s_ 51],oI 53 3,oI 54 7,oO 55 (.slsl 3 true false false) [s_ 53,s_ 54],oO 56 (.append 73 3 48) [s_ 52,s_ 55],oI 3 56]))))))) (.region [oC 57 .add 11 1,oI 11 57])))
def zB8:ICode:=oR [oV 2 .nilsl] (oR [oV 3 .nilsl] (.seq (oR [oI 8 0,oO 9 (.call zlS) [s_ 8],oO 10 .lensl [s_ 9],oV 11 (n_ 0)] (.block 0 (.loop ztb))) (oR [oI 58 3,oI 2 58] .ret)))
def ztc:IFun:=⟨59,[.slot 2],zB8,6,1,za2⟩
theorem zeD:za8 Tryz.prog [1048581,1048582,2097193,2097238] 1 zsr=some ztc:=by kernel_rfl
def zjR:ICode:=.seq (oR [oI 26 8,oI 27 5,oO 28 .lensl [s_ 27],oB 29 .lss 26 28,oI 30 29,oG 30 (oI 31 5),oG 30 (oI 32 8),oG 30 (oX 33 3 31 32),⟨some 34,(some (30,true)),.load 3 true,[s_ 33],(some (.el))⟩,oG 30 (oF 35 24 7),oK 7 (oG 30 (oM 36 3 35)),oG 30 (oO 37 (.call zsB) [s_ 34,s_ 36]),oG 30 (oC 38 .lss 37 0),oP 39 30 38] (oE 39 2)) (.block 3 (.region [oI 40 8,oC 41 .add 40 1,oI 8 41]))
def ztd:ICode:=oR [oB 23 .lss 22 21] (.seq (oE 23 0) (.seq (.block 1 (oR [oX 24 27 20 22,oM 25 27 24,oO 7 (.allocL [n_ 0,n_ 0,n_ 0,n_ 0,n_ 0,n_ 0,n_ 0,n_ 0,n_ 0,n_ 0,n_ 0,n_ 0,n_ 0,n_ 0,n_ 0,n_ 0,n_ 0,n_ 0,n_ 0,n_ 0,.str ⟨#[]⟩,.str ⟨#[]⟩,.str ⟨#[]⟩,.str ⟨#[]⟩,n_ 0,n_ 0,.str ⟨#[]⟩]) [],oS 27 7 25] (oR [oV 8 (n_ 0)] (.seq (.block 2 (.loop zjR)) (oR [oI 42 8,oI 43 5,oO 44 .lensl [s_ 43],oB 45 .eql 42 44,oI 46 45,oH 46 (oI 47 5),oH 46 (oI 48 8),oH 46 (oX 49 3 47 48),⟨some 50,(some (46,false)),.load 3 true,[s_ 49],(some (.el))⟩,oH 46 (oF 51 24 7),oK 7 (oH 46 (oM 52 3 51)),oH 46 (oO 53 (.eqv true [(.int .i64),(.int .i64),.str]) [s_ 50,s_ 52]),oQ 54 46 53] (oT 54 (.region [oO 55 (.buildSl 3 0 (.agg [n_ 0,n_ 0,.str ⟨#[]⟩]) []) [],oI 56 5,oI 57 8,oO 58 (.slsl 3 false true false) [s_ 56,s_ 57],oO 59 (.append 34 3 32) [s_ 55,s_ 58],oF 60 24 7,oK 7 (oM 61 3 60),oO 62 (.buildSl 3 1 (.agg [n_ 0,n_ 0,.str ⟨#[]⟩]) [0]) [s_ 61],oO 63 (.append 34 3 32) [s_ 59,s_ 62],oI 64 5,oI 65 8,oO 66 (.slsl 3 true false false) [s_ 64,s_ 65],oO 67 (.append 34 3 32) [s_ 63,s_ 66],oI 5 67]))))))) (.region [oC 68 .add 22 1,oI 22 68])))
def zB9:ICode:=oR [oO 3 .boxL [s_ 1],oV 4 .nilsl] (oR [oV 5 .nilsl] (.seq (oR [oF 9 0 3,oL 10 1 9,oC 11 .lss 10 4,oI 12 11,oH 12 (oI 13 0),oH 12 (oM 14 5 3),oH 12 (oO 15 (.call zsA) [s_ 13,s_ 14]),oH 12 (oO 16 (.un .not) [s_ 15]),oQ 17 12 16] (oT 17 (oR [oV 4 .nilsl] .ret))) (.seq (oR [oI 18 0,oM 19 5 3,oO 20 (.call zp8) [s_ 18,s_ 19],oO 21 .lensl [s_ 20],oV 22 (n_ 0)] (.block 0 (.loop ztd))) (oR [oI 69 5,oI 4 69] .ret))))
def zte:IFun:=⟨70,[.slot 4],zB9,6,1,za2⟩
theorem zen:za8 Tryz.prog [1048579,1048583,2097240] 1 zp6=some zte:=by kernel_rfl
def zCa:ICode:=oR [oV 4 (.bool false)] (oR [oI 5 0,oI 6 1,oO 7 (.build [n_ 0,.str ⟨#[]⟩,.str ⟨#[]⟩,.str ⟨#[]⟩,.str ⟨#[]⟩] [(0,1),(1,1)]) [.val (n_ 1),s_ 6],oO 8 (.call zp9) [s_ 5,s_ 7],oI 4 8] .ret)
def ztf:IFun:=⟨9,[.slot 4],zCa,6,1,za2⟩
theorem zfl:za8 Tryz.prog [2097243] 1 znz=some ztf:=by kernel_rfl
def ztg:ICode:=oR [oB 12 .lss 11 10] (.seq (oE 12 0) (.seq (.block 1 (oR [oX 13 5 9 11,oM 14 5 13,oO 7 (.allocL [n_ 0,.str ⟨#[]⟩,.str ⟨#[]⟩,.str ⟨#[]⟩,.str ⟨#[]⟩]) [],oS 5 7 14] (oR [oF 15 0 7,oL 16 1 15,oC 17 .eql 16 2,oI 18 17,oG 18 (oF 19 1 7),oG 18 (oL 20 1 19),oG 18 (oI 21 1),oG 18 (oB 22 .eql 20 21),oP 23 18 22,oI 24 23,oG 24 (oI 25 0),oG 24 (oM 26 5 7),oG 24 (oO 27 (.call zp9) [s_ 25,s_ 26]),oP 28 24 27,oI 29 28,oG 29 (oI 30 0),oG 29 (oM 31 5 7),oG 29 (oO 32 (.call zsA) [s_ 30,s_ 31]),oP 33 29 32] (oT 33 (.region [oI 34 5,oF 35 4 7,oL 36 1 35,oO 37 (.buildSl 1 1 (.str ⟨#[]⟩) [0]) [s_ 36],oO 38 (.append 9 1 16) [s_ 34,s_ 37],oI 5 38]))))) (.region [oC 39 .add 11 1,oI 11 39])))
def zCb:ICode:=oR [oV 4 .nilsl] (oR [oV 5 .nilsl] (.seq (oR [oI 8 0,oO 9 (.call zlS) [s_ 8],oO 10 .lensl [s_ 9],oV 11 (n_ 0)] (.block 0 (.loop ztg))) (oR [oI 40 5,oI 4 40] .ret)))
def zth:IFun:=⟨41,[.slot 4],zCb,6,1,za2⟩
theorem zeo:za8 Tryz.prog [1048583,2097243,2097240] 1 zss=some zth:=by kernel_rfl
def zEU:ICode:=oR [oO 3 .boxL [s_ 1],oV 4 (.bool false)] (oR [oI 5 0,oO 6 (.eq1 true .ptr) [s_ 5,.val .nilptr],oI 7 6,oG 7 (oI 8 0),oG 7 (oO 9 .nilchk [s_ 8]),oG 7 (oF 10 7 9),⟨some 11,(some (7,true)),.load 1 false,[s_ 10],(some (.heap))⟩,oK 3 (oG 7 (oM 12 3 3)),oG 7 (oO 13 (.callP znC) [s_ 12]),oG 7 (oO 14 (.mlook true [(.int .i64),.str,.str,.str,.str] (.bool false) false) [s_ 11,s_ 13]),oP 15 7 14,oI 4 15] .ret)
def zCc:IFun:=⟨16,[.slot 4],zEU,6,1,za2⟩
theorem zfm:za8 Tryz.prog [1048579,2097230] 1 zBQ=some zCc:=by kernel_rfl
def zxj:ICode:=oR [oO 3 .boxL [s_ 1],oV 4 (.bool false)] (oR [oI 5 0,oM 6 3 3,oO 7 (.call zsz) [s_ 6],oO 8 (.call zp9) [s_ 5,s_ 7],oI 9 8,oG 9 (oI 10 0),oG 9 (oF 11 0 3),oG 9 (oL 12 1 11),oG 9 (oO 13 (.call znz) [s_ 10,s_ 12]),oP 14 9 13,oI 15 14,oG 15 (oI 16 0),oG 15 (oF 17 1 3),oG 15 (oL 18 1 17),oG 15 (oO 19 (.call znz) [s_ 16,s_ 18]),oP 20 15 19,oI 4 20] .ret)
def znG:IFun:=⟨21,[.slot 4],zxj,6,1,za2⟩
theorem zdW:za8 Tryz.prog [1048579,2097234,2097243,2097190] 1 zst=some znG:=by kernel_rfl
def zti:ICode:=oR [oB 13 .lss 12 11] (.seq (oE 13 0) (.seq (.block 1 (oR [oX 14 5 10 12,oM 15 5 14,oO 7 (.allocL [n_ 0,.str ⟨#[]⟩,.str ⟨#[]⟩,.str ⟨#[]⟩,.str ⟨#[]⟩]) [],oS 5 7 15] (.seq (oR [oF 16 0 3,oL 17 1 16,oC 18 .neq 17 1,oI 19 18,oG 19 (oF 20 0 3),oG 19 (oL 21 1 20),oG 19 (oC 22 .neq 21 3),oP 23 19 22,oI 24 23,oH 24 (oF 25 4 3),oH 24 (oL 26 1 25),oH 24 (oO 27 (.bin .neq) [s_ 26,.val (.str ⟨#[]⟩)]),oQ 28 24 27,oI 29 28,oH 29 (oF 30 0 3),oH 29 (oL 31 1 30),oH 29 (oC 32 .eql 31 1),oH 29 (oI 33 32),oG 33 (oF 34 2 3),oG 33 (oL 35 1 34),oG 33 (oO 36 (.bin .neq) [s_ 35,.val (.str ⟨#[]⟩)]),oG 33 (oI 37 36),oH 37 (oF 38 3 3),oH 37 (oL 39 1 38),oH 37 (oO 40 (.bin .neq) [s_ 39,.val (.str ⟨#[]⟩)]),oG 33 (oQ 41 37 40),oH 29 (oP 42 33 41),oQ 43 29 42] (oT 43 (.exit 1))) (oR [oF 44 0 3,oL 45 1 44,oC 46 .eql 45 1,oI 47 46,oG 47 (oF 48 0 7),oG 47 (oL 49 1 48),oG 47 (oC 50 .eql 49 4),oP 51 47 50,oI 52 51,oG 52 (oF 53 1 7),oG 52 (oL 54 1 53),oG 52 (oF 55 1 3),oG 52 (oL 56 1 55),oG 52 (oB 57 .eql 54 56),oP 58 52 57,oI 59 58,oH 59 (oF 60 0 3),oH 59 (oL 61 1 60),oH 59 (oC 62 .eql 61 3),oH 59 (oI 63 62),oG 63 (oF 64 0 7),oG 63 (oL 65 1 64),oG 63 (oC 66 .eql 65 5),oH 59 (oP 67 63 66),oH 59 (oI 68 67),oG 68 (oF 69 1 7),oG 68 (oL 70 1 69),oG 68 (oF 71 1 3),oG 68 (oL 72 1 71),oG 68 (oB 73 .eql 70 72),oH 59 (oP 74 68 73),oH 59 (oI 75 74),oG 75 (oF 76 2 7),oG 75 (oL 77 1 76),oG 75 (oF 78 2 3),oG 75 (oL 79 1 78),oG 75 (oB 80 .eql 77 79),oH 59 (oP 81 75 80),oH 59 (oI 82 81),oG 82 (oF 83 3 7),oG 82 (oL 84 1 83),oG 82 (oF 85 3 3),oG 82 (oL 86 1 85),oG 82 (oB 87 .eql 84 86),oH 59 (oP 88 82 87),oQ 89 59 88,oI 8 89] (oR [oI 90 8,oI 91 90,oG 91 (oI 92 0),oG 91 (oM 93 5 7),oG 91 (oO 94 (.call zp6) [s_ 92,s_ 93]),oG 91 (oO 95 .lensl [s_ 94]),oG 91 (oC 96 .gtr 95 0),oP 97 91 96] (oT 97 (.region [oI 98 5,oF 99 4 7,oL 100 1 99,oO 101 (.buildSl 1 1 (.str ⟨#[]⟩) [0]) [s_ 100],oO 102 (.append 9 1 16) [s_ 98,s_ 101],oI 5 102]))))))) (.region [oC 103 .add 12 1,oI 12 103])))
def zCd:ICode:=oR [oO 3 .boxL [s_ 1],oV 4 .nilsl] (oR [oV 5 .nilsl] (.seq (oR [oI 9 0,oO 10 (.call zlS) [s_ 9],oO 11 .lensl [s_ 10],oV 12 (n_ 0)] (.block 0 (.loop zti))) (oR [oI 104 5,oI 4 104] .ret)))
def ztj:IFun:=⟨105,[.slot 4],zCd,6,1,za2⟩
theorem zeE:za8 Tryz.prog [1048579,1048583,2097189] 1 zp7=some ztj:=by kernel_rfl
def zjS:ICode:=.seq (oR [oI 4 3,oI 5 0,oO 6 .lenstr [s_ 5],oB 7 .lss 4 6] (oE 7 0)) (.seq (.block 1 (oR [oI 10 0,oI 11 3,oO 12 .ixstr [s_ 10,s_ 11],oO 13 (.bin .lss) [s_ 12,.val (.int .u8 32)],oI 14 13,oH 14 (oI 15 0),oH 14 (oI 16 3),oH 14 (oO 17 .ixstr [s_ 15,s_ 16]),oH 14 (oO 18 (.bin .gtr) [s_ 17,.val (.int .u8 126)]),oQ 19 14 18] (oT 19 (oR [oV 2 (.bool false)] .ret)))) (.region [oI 8 3,oC 9 .add 8 1,oI 3 9]))
def zCe:ICode:=oR [oV 2 (.bool false)] (.seq (oR [oV 3 (n_ 0)] (.block 0 (.loop zjS))) (oR [oI 20 0,oO 21 .lenstr [s_ 20],oC 22 .leq 21 64,oI 2 22] .ret))
def ztk:IFun:=⟨23,[.slot 2],zCe,6,0,za2⟩
theorem zeF:za8 Tryz.prog [] 0 zwX=some ztk:=by kernel_rfl
def zjT:ICode:=.seq (oR [oI 7 3,oI 8 0,oO 9 .lenstr [s_ 8],oB 10 .lss 7 9] (oE 10 0)) (.seq (.block 1 (oR [oI 13 0,oI 14 3,oO 15 .ixstr [s_ 13,s_ 14],oI 4 15] (oR [oI 16 4,oO 17 (.bin .geq) [s_ 16,.val (.int .u8 97)],oI 18 17,oG 18 (oI 19 4),oG 18 (oO 20 (.bin .leq) [s_ 19,.val (.int .u8 122)]),oP 21 18 20,oI 22 21,oH 22 (oI 23 4),oH 22 (oO 24 (.bin .geq) [s_ 23,.val (.int .u8 65)]),oH 22 (oI 25 24),oG 25 (oI 26 4),oG 25 (oO 27 (.bin .leq) [s_ 26,.val (.int .u8 90)]),oH 22 (oP 28 25 27),oQ 29 22 28,oI 5 29] (oR [oI 30 4,oO 31 (.bin .geq) [s_ 30,.val (.int .u8 48)],oI 32 31,oG 32 (oI 33 4),oG 32 (oO 34 (.bin .leq) [s_ 33,.val (.int .u8 57)]),oP 35 32 34,oI 36 35,oH 36 (oI 37 4),oH 36 (oO 38 (.bin .eql) [s_ 37,.val (.int .u8 95)]),oQ 39 36 38,oI 6 39] (oR [oI 40 5,oO 41 (.un .not) [s_ 40],oI 42 41,oG 42 (oI 43 6),oG 42 (oO 44 (.un .not) [s_ 43]),oG 42 (oI 45 44),oH 45 (oI 46 3),oH 45 (oC 47 .eql 46 0),oG 42 (oQ 48 45 47),oP 49 42 48] (oT 49 (oR [oV 2 (.bool false)] .ret))))))) (.region [oI 11 3,oC 12 .add 11 1,oI 3 12]))
def zzO:ICode:=oR [oV 2 (.bool false)] (.seq (oR [oV 3 (n_ 0)] (.block 0 (.loop zjT))) (oR [oI 50 0,oO 51 .lenstr [s_ 50],oC 52 .geq 51 1,oI 53 52,oG 53 (oI 54 0),oG 53 (oO 55 .lenstr [s_ 54]),oG 53 (oC 56 .leq 55 16),oP 57 53 56,oI 2 57] .ret))
def zqf:IFun:=⟨58,[.slot 2],zzO,6,0,za2⟩
theorem zfn:za8 Tryz.prog [] 0 zhI=some zqf:=by kernel_rfl
def znH:ICode:=oR [oO 2 (.allocL [.str ⟨#[]⟩,.str ⟨#[]⟩,.str ⟨#[]⟩]) [],oV 3 (.bool false)] (.seq (oR [oI 5 0,oO 6 .lenstr [s_ 5],oC 7 .gtr 6 60] (oT 7 (oR [oO 8 (.build [.str ⟨#[]⟩,.str ⟨#[]⟩,.str ⟨#[]⟩] []) [],oS 3 2 8,oV 3 (.bool false)] .ret))) (oR [oI 9 0,oO 10 (.call zsC) [s_ 9,.val (.int .u8 62)],oI 4 10] (.seq (oR [oI 11 4,oO 12 .lensl [s_ 11],oC 13 .neq 12 3,oI 14 13,oH 14 (oI 15 4),oH 14 (oO 16 (.ixaddr 1) [s_ 15,.val (n_ 0)]),oH 14 (oL 17 1 16),oH 14 (oO 18 (.call zhI) [s_ 17]),oH 14 (oO 19 (.un .not) [s_ 18]),oQ 20 14 19,oI 21 20,oH 21 (oI 22 4),oH 21 (oO 23 (.ixaddr 1) [s_ 22,.val (n_ 1)]),oH 21 (oL 24 1 23),oH 21 (oO 25 (.call zhI) [s_ 24]),oH 21 (oO 26 (.un .not) [s_ 25]),oQ 27 21 26,oI 28 27,oH 28 (oI 29 4),oH 28 (oO 30 (.ixaddr 1) [s_ 29,.val (n_ 2)]),oH 28 (oL 31 1 30),oH 28 (oO 32 (.call zhI) [s_ 31]),oH 28 (oO 33 (.un .not) [s_ 32]),oQ 34 28 33] (oT 34 (oR [oO 35 (.build [.str ⟨#[]⟩,.str ⟨#[]⟩,.str ⟨#[]⟩] []) [],oS 3 2 35,oV 3 (.bool false)] .ret))) (oR [oI 36 4,oO 37 (.ixaddr 1) [s_ 36,.val (n_ 0)],⟨some 38,none,.load 1 false,[s_ 37],(some (.heap))⟩,oI 39 4,oO 40 (.ixaddr 1) [s_ 39,.val (n_ 1)],⟨some 41,none,.load 1 false,[s_ 40],(some (.heap))⟩,oI 42 4,oO 43 (.ixaddr 1) [s_ 42,.val (n_ 2)],⟨some 44,none,.load 1 false,[s_ 43],(some (.heap))⟩,oO 45 (.build [.str ⟨#[]⟩,.str ⟨#[]⟩,.str ⟨#[]⟩] [(0,1),(2,1),(1,1)]) [s_ 38,s_ 41,s_ 44],oK 2 (oS 3 2 45),oV 3 (.bool true)] .ret))))
def zjm:IFun:=⟨46,[.cell 2 3 true,.slot 3],znH,6,1,za2⟩
theorem zfo:za8 Tryz.prog [1048578,3145765,3145768,3145771] 1 zsu=some zjm:=by kernel_rfl
def zCf:ICode:=oR [oC 29 .lss 28 16] (.seq (oE 29 0) (.seq (.block 1 (oR [oO 30 (.ixarr 16 1 false) [s_ 27,s_ 28],oI 5 30] (oR [oI 31 5,oC 32 .lss 31 0,oI 33 32,oH 33 (oI 34 5),oH 33 (oC 35 .gtr 34 1048576),oQ 36 33 35] (oT 36 (oR [oV 2 (.bool false)] .ret))))) (.region [oC 37 .add 28 1,oI 28 37])))
def zqg:ICode:=oR [oO 1 .boxL [s_ 0],oV 2 (.bool false)] (oR [oF 6 0 1,oM 7 2 6,oO 3 (.allocL [n_ 0,n_ 0]) [],oS 2 3 7] (.seq (oR [oF 8 0 3,oL 9 1 8,oC 10 .lss 9 0,oI 11 10,oH 11 (oF 12 0 3),oH 11 (oL 13 1 12),oH 11 (oC 14 .gtr 13 15),oQ 15 11 14,oI 16 15,oH 16 (oF 17 1 3),oH 16 (oL 18 1 17),oH 16 (oC 19 .lss 18 1),oQ 20 16 19,oI 21 20,oH 21 (oF 22 1 3),oH 21 (oL 23 1 22),oH 21 (oC 24 .gtr 23 1048576),oQ 25 21 24] (oT 25 (oR [oV 2 (.bool false)] .ret))) (.seq (oR [oF 26 2 1,oM 27 16 26,oV 28 (n_ 0)] (.block 0 (.loop zCf))) (oR [oF 38 0 3,oK 3 (oL 39 1 38),oF 40 2 1,oO 41 (.ixaddrA 16 1) [s_ 40,s_ 39],oK 1 (oL 42 1 41),oF 43 1 3,oK 3 (oL 44 1 43),oC 45 .sub 44 1,oB 46 .eql 42 45,oI 47 46,oG 47 (oF 48 18 1),oK 1 (oG 47 (oL 49 1 48)),oG 47 (oF 50 19 1),oK 1 (oG 47 (oM 51 5 50)),oG 47 (oF 52 24 1),oK 1 (oG 47 (oM 53 3 52)),oG 47 (oO 54 (.build [n_ 0,n_ 0,.str ⟨#[]⟩,.str ⟨#[]⟩,.str ⟨#[]⟩,.str ⟨#[]⟩,n_ 0,n_ 0,.str ⟨#[]⟩] [(0,1),(1,5),(6,3)]) [s_ 49,s_ 51,s_ 53]),oG 47 (oO 55 (.call zw5) [s_ 54]),oP 56 47 55,oI 2 56] .ret))))
def zkH:IFun:=⟨57,[.slot 2],zqg,6,0,za2⟩
theorem zeG:za8 Tryz.prog [1048577,1048579] 0 zwY=some zkH:=by kernel_rfl
def zEl:ICode:=oR [oO 1 .boxL [s_ 0],oV 2 (n_ 0)] (.seq (oR [oF 3 2 1,oM 4 16 3,oF 5 0 1,oM 6 2 5,oO 7 (.call zo8) [s_ 4,s_ 6],oO 8 (.un .not) [s_ 7],oI 9 8,oH 9 (oF 10 2 1),oH 9 (oM 11 16 10),oH 9 (oO 12 (.call zo9) [s_ 11]),oH 9 (oO 13 (.un .not) [s_ 12]),oQ 14 9 13] (oT 14 (oR [oV 2 (n_ 1)] .ret))) (oR [oM 15 27 1,oO 16 (.call zEj) [s_ 15],oO 17 (.call zEi) [s_ 16],oI 2 17] .ret))
def zzP:IFun:=⟨18,[.slot 2],zEl,6,0,za2⟩
theorem zkI:za8 Tryz.prog [1048577] 0 zEh=some zzP:=by kernel_rfl
def zhu:ICode:=.seq (oR [oI 16 6,oI 17 0,oO 18 .lensl [s_ 17],oB 19 .lss 16 18] (oE 19 0)) (.seq (.block 1 (oR [oI 22 0,oI 23 6,oX 24 5 22 23,oM 25 5 24,oO 7 (.allocL [n_ 0,n_ 0,n_ 0,n_ 0,.str ⟨#[]⟩]) [],oS 5 7 25] (oR [oI 26 1,oM 27 5 7,oO 28 .callv [s_ 26,s_ 27],oO 29 (.un .not) [s_ 28]] (oT 29 (oR [oI 30 0,oI 31 5,oM 32 5 7,oX 33 5 30 31,oS 5 33 32] (.region [oI 34 5,oC 35 .add 34 1,oI 5 35])))))) (.region [oI 20 6,oC 21 .add 20 1,oI 6 21]))
def zzQ:ICode:=oR [oV 4 .nilsl] (oR [oI 8 0,oI 9 1,oO 10 (.call zqa) [s_ 8,s_ 9],oI 5 10] (.seq (oR [oI 11 5,oC 12 .eql 11 (-1)] (oT 12 (oR [oI 13 0,oI 4 13] .ret))) (.seq (oR [oI 14 5,oC 15 .add 14 1,oI 6 15] (.block 0 (.loop zhu))) (oR [oI 36 0,oI 37 5,oO 38 (.slsl 5 true false false) [s_ 36,s_ 37],⟨none,none,.clearR 5 ((.agg [n_ 0,n_ 0,n_ 0,n_ 0,.str ⟨#[]⟩])),[s_ 38],none⟩] (oR [oI 39 0,oI 40 5,oO 41 (.slsl 5 false true false) [s_ 39,s_ 40],oI 4 41] .ret)))))
def znI:IFun:=⟨42,[.slot 4],zzQ,6,0,za2⟩
theorem zbL:za8 Tryz.prog [1048583] 0 znA=some znI:=by kernel_rfl
def zxk:ICode:=oR [oV 2 .nilsl] (.seq (oR [oI 3 0,oO 4 (.eq1 false .slice) [s_ 3,.val .nilsl]] (oT 4 (oR [oV 2 .nilsl] .ret))) (oR [oO 5 (.buildSl 5 0 (.agg [n_ 0,n_ 0,n_ 0,n_ 0,.str ⟨#[]⟩]) []) [],oI 6 0,oO 7 (.appendN 96 5 48) [s_ 5,s_ 6],oI 2 7] .ret))
def znJ:IFun:=⟨8,[.slot 2],zxk,6,0,za2⟩
theorem zb6:za8 Tryz.prog [16777223] 0 zjj=some znJ:=by kernel_rfl
def zCg:ICode:=oR [oO 2 .boxL [s_ 0],oV 3 (.bool false)] (oR [oF 4 2 1,oM 5 16 4,oF 6 0 2,oM 7 2 6,oO 8 (.call zo7) [s_ 5,s_ 7],oI 3 8] .ret)
def ztl:IFun:=⟨9,[.slot 3],zCg,6,0,za2⟩
theorem zgb:za8 Tryz.prog [1048578] 0 zwZ=some ztl:=by kernel_rfl
def ztm:ICode:=oR [oO 2 .boxL [s_ 0],oO 3 .boxL [s_ 1],oV 4 (.bool false)] (oR [oK 3 (oM 5 2 3),oO 6 (.call zlT) [s_ 5],oI 7 6,oG 7 (oF 8 0 3),oK 3 (oG 7 (oL 9 1 8)),oG 7 (oO 10 (.ixaddrA 16 1) [s_ 2,s_ 9]),oK 2 (oG 7 (oL 11 1 10)),oG 7 (oF 12 1 3),oK 3 (oG 7 (oL 13 1 12)),oG 7 (oB 14 .geq 11 13),oP 15 7 14,oI 4 15] .ret)
def zjU:IFun:=⟨16,[.slot 4],ztm,6,0,za2⟩
theorem zjn:za8 Tryz.prog [1048578,1048579] 0 zo7=some zjU:=by kernel_rfl
def zjV:ICode:=.seq (oR [oI 15 9,oI 16 10,oB 17 .lss 15 16] (oE 17 0)) (.block 1 (oR [oI 18 9,oI 19 10,oB 20 .add 18 19,oO 21 (.conv .u64) [s_ 20],oO 22 (.bin .shr) [s_ 21,.val (.int .u64 1)],oO 23 (.conv .i64) [s_ 22],oI 11 23] (oR [oI 24 2,oI 25 0,oI 26 11,oX 27 5 25 26,⟨some 28,none,.load 5 true,[s_ 27],(some (.el))⟩,oK 4 (oM 29 5 4),oO 30 .callv [s_ 24,s_ 28,s_ 29],oC 31 .lss 30 0] (.cond (s_ 31) (.region [oI 32 11,oC 33 .add 32 1,oI 9 33]) (.region [oI 34 11,oI 10 34])))))
def zCh:ICode:=oR [oO 4 .boxL [s_ 1],oV 6 (n_ 0),oV 7 (.bool false)] (oR [oI 12 0,oO 13 .lensl [s_ 12],oI 8 13] (oR [oI 14 8,oV 9 (n_ 0),oI 10 14] (.seq (.block 0 (.loop zjV)) (oR [oI 35 9,oI 36 9,oI 37 8,oB 38 .lss 36 37,oI 39 38,oG 39 (oI 40 2),oG 39 (oI 41 0),oG 39 (oI 42 9),oG 39 (oX 43 5 41 42),⟨some 44,(some (39,true)),.load 5 true,[s_ 43],(some (.el))⟩,oK 4 (oG 39 (oM 45 5 4)),oG 39 (oO 46 .callv [s_ 40,s_ 44,s_ 45]),oG 39 (oC 47 .eql 46 0),oP 48 39 47,oI 6 35,oI 7 48] .ret))))
def ztn:IFun:=⟨49,[.slot 6,.slot 7],zCh,6,0,za2⟩
theorem za7:za8 Tryz.prog [1048580] 0 znB=some ztn:=by kernel_rfl
def zCi:ICode:=oR [oO 2 .boxL [s_ 0],oO 3 .boxL [s_ 1],oV 4 (n_ 0)] (oR [oF 5 0 2,oF 6 0 5,oK 2 (oL 7 1 6),oF 8 0 3,oF 9 0 8,oK 3 (oL 10 1 9),oO 11 (.call f_x0) [s_ 7,s_ 10],oF 12 0 2,oF 13 1 12,oK 2 (oL 14 1 13),oF 15 0 3,oF 16 1 15,oK 3 (oL 17 1 16),oO 18 (.call f_x0) [s_ 14,s_ 17],oO 19 (.buildSl 1 2 (n_ 0) [0,1]) [s_ 11,s_ 18],oO 20 (.call f_x2) [s_ 19],oI 4 20] .ret)
def zto:IFun:=⟨21,[.slot 4],zCi,6,0,za2⟩
theorem zkJ:za8 Tryz.prog [1048578,1048579] 0 zzJ=some zto:=by kernel_rfl
def zCj:IFun:=⟨8,[],.trap,0,30,zuj⟩
def zzR:ICode:=oR [oO 4 .boxL [s_ 1]] (.seq (oR [oI 6 2,oO 7 .lensl [s_ 6],oC 8 .eql 7 0] (oT 8 (oR [oI 9 0,oO 10 .nilchk [s_ 9],oF 11 0 10,⟨some 12,none,.load 1 false,[s_ 11],(some (.heap))⟩,oK 4 (oM 13 5 4),⟨none,none,.mdel true [(.int .i64),.str,.str,.str,.str],[s_ 12,s_ 13],none⟩] .ret))) (.region [oI 14 0,oO 15 .nilchk [s_ 14],oF 16 0 15,⟨some 17,none,.load 1 false,[s_ 16],(some (.heap))⟩,oK 4 (oM 18 5 4),oI 19 2,⟨none,none,.mset true [(.int .i64),.str,.str,.str,.str],[s_ 17,s_ 18,s_ 19],none⟩]))
def zqh:IFun:=⟨20,[],zzR,6,0,za2⟩
theorem zg0:za8 Tryz.prog [1048580] 0 zsv=some zqh:=by kernel_rfl
def zkK:ICode:=oR [oO 5 .boxL [s_ 2]] (oR [oF 7 0 5,oL 8 1 7] (.block 0 (oR [oC 10 .eql 8 1,oI 9 10] (.cond (s_ 9) (oR [oI 11 0,oO 12 .nilchk [s_ 11],oF 13 7 12,⟨some 14,none,.load 1 false,[s_ 13],(some (.heap))⟩,oK 5 (oM 15 5 5),⟨none,none,.mset true [(.int .i64),.str,.str,.str,.str],[s_ 14,s_ 15,.val (.bool true)],none⟩] (.region [oI 16 0,oI 17 0,oO 18 .nilchk [s_ 17],oF 19 0 18,⟨some 20,none,.load 1 false,[s_ 19],(some (.heap))⟩,oF 21 1 5,oK 5 (oL 22 1 21),oO 23 (.buildSl 1 1 (.str ⟨#[]⟩) [0]) [s_ 22],oO 24 (.appendT 9 1 16) [s_ 20,s_ 23],oO 25 .nilchk [s_ 16],oF 26 0 25,⟨none,none,.store 1,[s_ 26,s_ 24],(some (.heap))⟩])) (oR [oC 28 .eql 8 2,oI 27 28] (.cond (s_ 27) (oR [oI 29 0,oO 30 .nilchk [s_ 29],oF 31 7 30,⟨some 32,none,.load 1 false,[s_ 31],(some (.heap))⟩,oF 33 1 5,oK 5 (oL 34 1 33),oO 35 (.callP zjk) [s_ 34],oO 36 (.mlook true [(.int .i64),.str,.str,.str,.str] (.bool false) false) [s_ 32,s_ 35]] (oT 36 (.region [oI 37 0,oO 38 .nilchk [s_ 37],oF 39 2 38,⟨some 40,none,.load 1 false,[s_ 39],(some (.heap))⟩,oF 41 1 5,oK 5 (oL 42 1 41),oI 43 0,oO 44 .nilchk [s_ 43],oF 45 2 44,⟨some 46,none,.load 1 false,[s_ 45],(some (.heap))⟩,oF 47 1 5,oK 5 (oL 48 1 47),oO 49 (.mlook false [.str] .nilsl false) [s_ 46,s_ 48],oF 50 4 5,oK 5 (oL 51 1 50),oO 52 (.buildSl 1 1 (.str ⟨#[]⟩) [0]) [s_ 51],oO 53 (.appendT 9 1 16) [s_ 49,s_ 52],⟨none,none,.mset false [.str],[s_ 40,s_ 42,s_ 53],none⟩]))) (oR [oC 55 .eql 8 3,oI 54 55] (.cond (s_ 54) (oR [oI 56 0,oO 57 .nilchk [s_ 56],oF 58 7 57,⟨some 59,none,.load 1 false,[s_ 58],(some (.heap))⟩,oF 60 1 5,oK 5 (oL 61 1 60),oO 62 (.callP zjk) [s_ 61],oO 63 (.mlook true [(.int .i64),.str,.str,.str,.str] (.bool false) false) [s_ 59,s_ 62],oI 64 63,oG 64 (oI 65 0),oG 64 (oO 66 .nilchk [s_ 65]),oG 64 (oF 67 7 66),⟨some 68,(some (64,true)),.load 1 false,[s_ 67],(some (.heap))⟩,oG 64 (oF 69 2 5),oK 5 (oG 64 (oL 70 1 69)),oG 64 (oO 71 (.callP zjk) [s_ 70]),oG 64 (oO 72 (.mlook true [(.int .i64),.str,.str,.str,.str] (.bool false) false) [s_ 68,s_ 71]),oP 73 64 72] (oT 73 (oR [oI 74 0,oO 75 .nilchk [s_ 74],oF 76 7 75,⟨some 77,none,.load 1 false,[s_ 76],(some (.heap))⟩,oK 5 (oM 78 5 5),⟨none,none,.mset true [(.int .i64),.str,.str,.str,.str],[s_ 77,s_ 78,.val (.bool true)],none⟩] (.region [oI 79 0,oI 80 0,oO 81 .nilchk [s_ 80],oF 82 1 81,⟨some 83,none,.load 1 false,[s_ 82],(some (.heap))⟩,oK 5 (oM 84 5 5),oO 85 (.callP zsD) [s_ 84],oO 86 (.buildSl 3 1 (.agg [.str ⟨#[]⟩,.str ⟨#[]⟩,.str ⟨#[]⟩]) [0]) [s_ 85],oO 87 (.appendN 73 3 48) [s_ 83,s_ 86],oO 88 .nilchk [s_ 79],oF 89 1 88,⟨none,none,.store 1,[s_ 89,s_ 87],(some (.heap))⟩])))) (.seq (oR [oC 91 .eql 8 4,oI 90 91] (.cond (s_ 90) .skip (.region [oC 92 .eql 8 5,oI 90 92]))) (oT 90 (oR [oM 93 5 5,oO 94 (.call zw7) [s_ 93],oO 6 (.allocL [n_ 0,.str ⟨#[]⟩,.str ⟨#[]⟩,.str ⟨#[]⟩,.str ⟨#[]⟩]) [],oS 5 6 94] (oR [oI 95 0,oO 96 .nilchk [s_ 95],oF 97 7 96,⟨some 98,none,.load 1 false,[s_ 97],(some (.heap))⟩,oK 6 (oM 99 5 6),oO 100 (.mlook true [(.int .i64),.str,.str,.str,.str] (.bool false) false) [s_ 98,s_ 99]] (oT 100 (oR [oI 101 0,oO 102 .nilchk [s_ 101],oF 103 5 102,⟨some 104,none,.load 1 false,[s_ 103],(some (.heap))⟩,oK 5 (oM 105 5 5),oI 106 1,oK 5 (oM 107 5 5),oO 108 (.callP zsE) [s_ 106,s_ 107],⟨none,none,.mset true [(.int .i64),.str,.str,.str,.str],[s_ 104,s_ 105,s_ 108],none⟩] (.region [oI 109 0,oO 110 .nilchk [s_ 109],oF 111 6 110,⟨some 112,none,.load 1 false,[s_ 111],(some (.heap))⟩,oK 6 (oM 113 5 6),oF 115 4 5,oK 5 (oL 116 1 115),oO 117 (.buildSl 1 1 (.str ⟨#[]⟩) [0]) [s_ 116],oO 114 (.mlook true [(.int .i64),.str,.str,.str,.str] .nilsl false) [s_ 112,s_ 113],⟨none,none,.mset true [(.int .i64),.str,.str,.str,.str],[s_ 112,s_ 113,s_ 114],none⟩,oO 119 (.appendT 9 1 16) [s_ 114,s_ 117],⟨none,none,.mset true [(.int .i64),.str,.str,.str,.str],[s_ 112,s_ 113,s_ 119],none⟩,oV 118 .junk,oV 120 .junk])))))))))))))))
def zdX:IFun:=⟨121,[],zkK,6,0,za2⟩
theorem zhL:za8 Tryz.prog [1048581,1048582,2097229,2097262,2097263,2097264,33554432,16777303] 0 zfi=some zdX:=by kernel_rfl
def zCk:IFun:=⟨8,[],.trap,0,30,zk9⟩
def b_x22:ICode:=oR [oO 2 .boxL [s_ 0],oO 3 .boxL [s_ 1],oV 4 (n_ 0)] (oR [oF 5 0 2,oK 2 (oL 6 1 5),oF 7 0 3,oK 3 (oL 8 1 7),oO 9 (.call f_x1) [s_ 6,s_ 8],oF 10 2 2,oK 2 (oL 11 1 10),oF 12 2 3,oK 3 (oL 13 1 12),oO 14 (.call f_x1) [s_ 11,s_ 13],oF 15 1 2,oK 2 (oL 16 1 15),oF 17 1 3,oK 3 (oL 18 1 17),oO 19 (.call f_x1) [s_ 16,s_ 18],oO 20 (.buildSl 1 3 (n_ 0) [0,1,2]) [s_ 9,s_ 14,s_ 19],oO 21 (.call f_x2) [s_ 20],oI 4 21] .ret)
def F_x22:IFun:=⟨22,[.slot 4],b_x22,6,0,za2⟩
theorem c_graph_order:za8 Tryz.prog [1048578,1048579] 0 f_x22=some F_x22:=by kernel_rfl
def zjo:ICode:=oR [oO 1 .boxL [s_ 0],oV 2 (.bool false)] (.seq (oR [oF 5 0 1,oL 6 1 5] (.block 0 (oR [oC 8 .eql 6 0,oI 7 8] (.cond (s_ 7) (oR [oF 9 1 1,oL 10 1 9,oC 11 .eql 10 0,oI 12 11,oG 12 (oF 13 2 1),oG 12 (oL 14 1 13),oG 12 (oO 15 (.bin .eql) [s_ 14,.val (.str ⟨#[]⟩)]),oP 16 12 15,oI 2 16] .ret) (oR [oC 18 .eql 6 1,oI 17 18] (.cond (s_ 17) (oR [oF 19 1 1,oL 20 1 19,oC 21 .andNot 20 1,oC 22 .eql 21 0,oI 23 22,oG 23 (oF 24 2 1),oG 23 (oL 25 1 24),oG 23 (oO 26 (.bin .eql) [s_ 25,.val (.str ⟨#[]⟩)]),oP 27 23 26,oI 2 27] .ret) (oR [oC 29 .eql 6 2,oI 28 29] (.cond (s_ 28) (oR [oF 30 1 1,oL 31 1 30,oC 32 .geq 31 (-1099511627776),oI 33 32,oG 33 (oF 34 1 1),oG 33 (oL 35 1 34),oG 33 (oC 36 .leq 35 1099511627776),oP 37 33 36,oI 38 37,oG 38 (oF 39 2 1),oG 38 (oL 40 1 39),oG 38 (oO 41 (.bin .eql) [s_ 40,.val (.str ⟨#[]⟩)]),oP 42 38 41,oI 2 42] .ret) (oR [oC 44 .eql 6 3,oI 43 44] (.cond (s_ 43) (oR [oF 45 1 1,oL 46 1 45,oC 47 .eql 46 0,oI 48 47,oG 48 (oF 49 2 1),oG 48 (oL 50 1 49),oG 48 (oO 51 (.call zw8) [s_ 50]),oP 52 48 51,oI 2 52] .ret) (oR [oC 54 .eql 6 4,oI 53 54] (oT 53 (oR [oF 55 1 1,oL 56 1 55,oC 57 .eql 56 0,oI 58 57,oG 58 (oF 59 2 1),oG 58 (oL 60 1 59),oG 58 (oO 61 (.call zqc) [s_ 60]),oP 62 58 61,oI 2 62] .ret))))))))))))) (oR [oM 64 3 1,oO 65 (.call zsF) [s_ 64],oI 63 65,oO 66 (.extract 0) [s_ 63],oO 67 (.extract 1) [s_ 63],oO 3 (.allocL [.str ⟨#[]⟩,.str ⟨#[]⟩,.str ⟨#[]⟩]) [],oS 3 3 66,oI 4 67] (oR [oI 68 4,oI 2 68] .ret)))
def zg1:IFun:=⟨69,[.slot 2],zjo,6,0,za2⟩
theorem zkL:za8 Tryz.prog [1048577,1048579] 0 zsw=some zg1:=by kernel_rfl
def zCl:ICode:=oR [oO 2 (.allocL [n_ 0,.str ⟨#[]⟩,.str ⟨#[]⟩,.str ⟨#[]⟩,.str ⟨#[]⟩]) []] (oR [oI 3 0,oO 4 (.build [n_ 0,.str ⟨#[]⟩,.str ⟨#[]⟩,.str ⟨#[]⟩,.str ⟨#[]⟩] [(0,1),(1,1)]) [.val (n_ 1),s_ 3],oS 5 2 4] .ret)
def ztp:IFun:=⟨5,[.cell 2 5 true],zCl,6,1,za2⟩
theorem zlU:za8 Tryz.prog [1048578] 1 zjk=some ztp:=by kernel_rfl
def zCm:ICode:=oR [oO 1 .boxL [s_ 0],oO 2 (.allocL [n_ 0,.str ⟨#[]⟩,.str ⟨#[]⟩,.str ⟨#[]⟩,.str ⟨#[]⟩]) []] (oR [oF 3 0 1,oL 4 1 3,oF 5 1 1,oL 6 1 5,oF 7 2 1,oL 8 1 7,oO 9 (.build [n_ 0,.str ⟨#[]⟩,.str ⟨#[]⟩,.str ⟨#[]⟩,.str ⟨#[]⟩] [(0,1),(1,1),(2,1),(3,1)]) [.val (n_ 3),s_ 4,s_ 6,s_ 8],oS 5 2 9] .ret)
def ztq:IFun:=⟨10,[.cell 2 5 true],zCm,6,1,za2⟩
theorem zlV:za8 Tryz.prog [1048577,1048578] 1 znC=some ztq:=by kernel_rfl
def zxl:IFun:=⟨8,[],.trap,0,10,za2⟩
def zze:ICode:=oR [oB 17 .lss 16 15] (.seq (oE 17 0) (.seq (.block 1 (oR [oX 18 3 14 16,oM 19 3 18,oO 8 (.allocL [n_ 0,n_ 0,.str ⟨#[]⟩]) [],oS 3 8 19] (.region [oI 20 1,oM 21 3 8,oO 22 (.call zsG) [s_ 21],oO 23 (.buildSl 1 1 (.str ⟨#[]⟩) [0]) [s_ 22],oO 24 (.append 9 1 16) [s_ 20,s_ 23],oI 1 24]))) (.region [oC 25 .add 16 1,oI 16 25])))
def zCn:ICode:=oR [oO 5 .boxL [s_ 2],oV 6 (.str ⟨#[]⟩)] (.seq (oR [oI 9 0,oO 10 .nilchk [s_ 9],oF 11 5 10,⟨some 12,none,.load 1 false,[s_ 11],(some (.heap))⟩,oK 5 (oM 13 5 5),oO 14 (.mlook true [(.int .i64),.str,.str,.str,.str] .nilsl false) [s_ 12,s_ 13],oO 15 .lensl [s_ 14],oV 16 (n_ 0)] (.block 0 (.loop zze))) (oR [oI 26 1,oO 27 (.call zkF) [s_ 26,.val (.str ⟨#[32]⟩)],oI 6 27] .ret))
def ztr:IFun:=⟨28,[.slot 6],zCn,6,1,za2⟩
theorem zg2:za8 Tryz.prog [1048581,1048584,2097231] 1 zsx=some ztr:=by kernel_rfl
def zzf:ICode:=oR [oB 14 .lss 13 12] (.seq (oE 14 0) (.seq (.block 1 (oR [oX 15 3 11 13,oM 16 3 15,oO 8 (.allocL [n_ 0,n_ 0,.str ⟨#[]⟩]) [],oS 3 8 16] (.region [oI 17 1,oO 18 (.bin .add) [s_ 17,.val (.str ⟨#[32]⟩)],oM 19 3 8,oO 20 (.call zsH) [s_ 19],oB 21 .add 18 20,oI 1 21]))) (.region [oC 22 .add 13 1,oI 13 22])))
def zCo:ICode:=oR [oO 5 .boxL [s_ 2],oV 6 (.str ⟨#[]⟩)] (.seq (oR [oI 9 0,oM 10 5 5,oO 11 (.call zp6) [s_ 9,s_ 10],oO 12 .lensl [s_ 11],oV 13 (n_ 0)] (.block 0 (.loop zzf))) (oR [oI 23 1,oI 6 23] .ret))
def zts:IFun:=⟨24,[.slot 6],zCo,6,1,za2⟩
theorem zfp:za8 Tryz.prog [1048581,1048584,2097189] 1 zsy=some zts:=by kernel_rfl
def zCp:ICode:=oR [oO 1 .boxL [s_ 0],oO 2 (.allocL [n_ 0,.str ⟨#[]⟩,.str ⟨#[]⟩,.str ⟨#[]⟩,.str ⟨#[]⟩]) []] (oR [oF 3 0 1,oL 4 1 3,oF 5 1 1,oL 6 1 5,oF 7 2 1,oL 8 1 7,oO 9 (.build [n_ 0,.str ⟨#[]⟩,.str ⟨#[]⟩,.str ⟨#[]⟩,.str ⟨#[]⟩] [(0,1),(1,1),(2,1),(3,1)]) [.val (n_ 3),s_ 4,s_ 6,s_ 8],oS 5 2 9] .ret)
def ztt:IFun:=⟨10,[.cell 2 5 true],zCp,6,1,za2⟩
theorem zfq:za8 Tryz.prog [1048577,1048578] 1 zsz=some ztt:=by kernel_rfl
def zzS:ICode:=oR [oV 2 .nilsl] (.seq (oR [oI 3 0,oO 4 (.eq1 false .slice) [s_ 3,.val .nilsl]] (oT 4 (oR [oV 2 .nilsl] .ret))) (oR [oO 5 (.buildSl 1 0 (.str ⟨#[]⟩) []) [],oI 6 0,oO 7 (.append 9 1 16) [s_ 5,s_ 6],oI 2 7] .ret))
def znK:IFun:=⟨8,[.slot 2],zzS,6,0,za2⟩
theorem zdr:za8 Tryz.prog [] 0 zw2=some znK:=by kernel_rfl
def zjW:ICode:=.seq (oR [oI 13 6,oI 14 3,oO 15 .lensl [s_ 14],oB 16 .lss 13 15,oI 17 16,oG 17 (oI 18 3),oG 17 (oI 19 6),oG 17 (oX 20 5 18 19),⟨some 21,(some (17,true)),.load 5 true,[s_ 20],(some (.el))⟩,oG 17 (oF 22 19 5),oK 5 (oG 17 (oM 23 5 22)),oG 17 (oO 24 (.call zw9) [s_ 21,s_ 23]),oP 25 17 24] (oE 25 2)) (.block 3 (.region [oI 26 6,oC 27 .add 26 1,oI 6 27]))
def ztu:ICode:=oR [oB 10 .lss 9 8] (.seq (oE 10 0) (.seq (.block 1 (oR [oX 11 27 7 9,oM 12 27 11,oO 5 (.allocL [n_ 0,n_ 0,n_ 0,n_ 0,n_ 0,n_ 0,n_ 0,n_ 0,n_ 0,n_ 0,n_ 0,n_ 0,n_ 0,n_ 0,n_ 0,n_ 0,n_ 0,n_ 0,n_ 0,n_ 0,.str ⟨#[]⟩,.str ⟨#[]⟩,.str ⟨#[]⟩,.str ⟨#[]⟩,n_ 0,n_ 0,.str ⟨#[]⟩]) [],oS 27 5 12] (oR [oV 6 (n_ 0)] (.seq (.block 2 (.loop zjW)) (oR [oI 28 6,oI 29 3,oO 30 .lensl [s_ 29],oB 31 .eql 28 30,oI 32 31,oH 32 (oI 33 3),oH 32 (oI 34 6),oH 32 (oX 35 5 33 34),⟨some 36,(some (32,false)),.load 5 true,[s_ 35],(some (.el))⟩,oH 32 (oF 37 19 5),oK 5 (oH 32 (oM 38 5 37)),oH 32 (oO 39 (.eqv true [(.int .i64),.str,.str,.str,.str]) [s_ 36,s_ 38]),oQ 40 32 39] (oT 40 (.region [oO 41 (.buildSl 5 0 (.agg [n_ 0,.str ⟨#[]⟩,.str ⟨#[]⟩,.str ⟨#[]⟩,.str ⟨#[]⟩]) []) [],oI 42 3,oI 43 6,oO 44 (.slsl 5 false true false) [s_ 42,s_ 43],oO 45 (.append 32 5 72) [s_ 41,s_ 44],oF 46 19 5,oK 5 (oM 47 5 46),oO 48 (.buildSl 5 1 (.agg [n_ 0,.str ⟨#[]⟩,.str ⟨#[]⟩,.str ⟨#[]⟩,.str ⟨#[]⟩]) [0]) [s_ 47],oO 49 (.append 32 5 72) [s_ 45,s_ 48],oI 50 3,oI 51 6,oO 52 (.slsl 5 true false false) [s_ 50,s_ 51],oO 53 (.append 32 5 72) [s_ 49,s_ 52],oI 3 53]))))))) (.region [oC 54 .add 9 1,oI 9 54])))
def zCq:ICode:=oR [oV 2 .nilsl] (oR [oV 3 .nilsl] (.seq (oR [oI 7 0,oO 8 .lensl [s_ 7],oV 9 (n_ 0)] (.block 0 (.loop ztu))) (oR [oI 55 3,oI 2 55] .ret)))
def ztv:IFun:=⟨56,[.slot 2],zCq,6,0,za2⟩
theorem zeH:za8 Tryz.prog [1048581] 0 zlS=some ztv:=by kernel_rfl
def zzT:ICode:=oR [oV 2 .nilsl] (.seq (oR [oI 3 0,oO 4 (.eq1 false .slice) [s_ 3,.val .nilsl]] (oT 4 (oR [oV 2 .nilsl] .ret))) (oR [oO 5 (.buildSl 3 0 (.agg [.str ⟨#[]⟩,.str ⟨#[]⟩,.str ⟨#[]⟩]) []) [],oI 6 0,oO 7 (.append 73 3 48) [s_ 5,s_ 6],oI 2 7] .ret))
def znL:IFun:=⟨8,[.slot 2],zzT,6,0,za2⟩
theorem zcP:za8 Tryz.prog [] 0 zw3=some znL:=by kernel_rfl
def ztw:ICode:=oR [oO 2 .boxL [s_ 0],oO 3 .boxL [s_ 1],oV 4 (.bool false)] (.seq (oR [oF 5 0 2,oL 6 1 5,oF 7 0 3,oL 8 1 7,oB 9 .neq 6 8] (oT 9 (oR [oF 10 0 2,oL 11 1 10,oF 12 0 3,oL 13 1 12,oB 14 .lss 11 13,oI 4 14] .ret))) (.seq (oR [oF 15 2 2,oL 16 1 15,oF 17 2 3,oL 18 1 17,oB 19 .neq 16 18] (oT 19 (oR [oF 20 2 2,oL 21 1 20,oF 22 2 3,oL 23 1 22,oB 24 .lss 21 23,oI 4 24] .ret))) (oR [oF 25 1 2,oL 26 1 25,oF 27 1 3,oL 28 1 27,oB 29 .lss 26 28,oI 4 29] .ret)))
def zlW:IFun:=⟨30,[.slot 4],ztw,6,1,za2⟩
theorem zfr:za8 Tryz.prog [1048578,1048579] 1 zw4=some zlW:=by kernel_rfl
def ztx:ICode:=oR [oO 3 .boxL [s_ 1],oV 4 (.bool false)] (.seq (oR [oF 5 0 3,oL 6 1 5] (.block 0 (.seq (oR [oC 8 .eql 6 2,oI 7 8] (.cond (s_ 7) .skip (.region [oC 9 .eql 6 4,oI 7 9]))) (.cond (s_ 7) (oR [oI 10 0,oF 11 1 3,oL 12 1 11,oO 13 (.call znz) [s_ 10,s_ 12],oI 4 13] .ret) (oR [oC 15 .eql 6 5,oI 14 15] (oT 14 (oR [oI 16 0,oF 17 1 3,oL 18 1 17,oF 19 2 3,oL 20 1 19,oF 21 3 3,oL 22 1 21,oO 23 (.build [.str ⟨#[]⟩,.str ⟨#[]⟩,.str ⟨#[]⟩] [(0,1),(1,1),(2,1)]) [s_ 18,s_ 20,s_ 22],oO 24 (.call zst) [s_ 16,s_ 23],oI 4 24] .ret))))))) (oR [oV 4 (.bool false)] .ret))
def zlX:IFun:=⟨25,[.slot 4],ztx,6,1,za2⟩
theorem zfs:za8 Tryz.prog [1048579,2097190,2097193] 1 zsA=some zlX:=by kernel_rfl
def zpa:ICode:=oR [oB 34 .lss 33 32] (.seq (oE 34 2) (.seq (.block 3 (oR [oX 35 27 31 33,oM 36 27 35,oO 10 (.allocL [n_ 0,n_ 0,n_ 0,n_ 0,n_ 0,n_ 0,n_ 0,n_ 0,n_ 0,n_ 0,n_ 0,n_ 0,n_ 0,n_ 0,n_ 0,n_ 0,n_ 0,n_ 0,n_ 0,n_ 0,.str ⟨#[]⟩,.str ⟨#[]⟩,.str ⟨#[]⟩,.str ⟨#[]⟩,n_ 0,n_ 0,.str ⟨#[]⟩]) [],oS 27 10 36] (oR [oF 37 19 10,oM 38 5 37,oM 39 5 3,oO 40 (.eqv false [(.int .i64),.str,.str,.str,.str]) [s_ 38,s_ 39],oI 41 40,oG 41 (oF 42 18 10),oG 41 (oL 43 1 42),oG 41 (oC 44 .neq 43 1),oP 45 41 44,oI 46 45,oG 46 (oF 47 0 10),oG 46 (oM 48 2 47),oG 46 (oF 49 0 7),oG 46 (oM 50 2 49),oG 46 (oO 51 (.eqv true [(.int .i64),(.int .i64)]) [s_ 48,s_ 50]),oP 52 46 51,oI 53 52,oG 53 (oF 54 2 10),oG 53 (oM 55 16 54),oG 53 (oF 56 0 7),oG 53 (oM 57 2 56),oG 53 (oO 58 (.call zxa) [s_ 55,s_ 57]),oP 59 53 58] (oT 59 (.region [oV 8 (.bool false)]))))) (.region [oC 60 .add 33 1,oI 33 60])))
def zty:ICode:=oR [oB 14 .lss 13 12] (.seq (oE 14 0) (.seq (.block 1 (oR [oX 15 27 11 13,oM 16 27 15,oO 7 (.allocL [n_ 0,n_ 0,n_ 0,n_ 0,n_ 0,n_ 0,n_ 0,n_ 0,n_ 0,n_ 0,n_ 0,n_ 0,n_ 0,n_ 0,n_ 0,n_ 0,n_ 0,n_ 0,n_ 0,n_ 0,.str ⟨#[]⟩,.str ⟨#[]⟩,.str ⟨#[]⟩,.str ⟨#[]⟩,n_ 0,n_ 0,.str ⟨#[]⟩]) [],oS 27 7 16] (.seq (oR [oF 17 19 7,oM 18 5 17,oM 19 5 3,oO 20 (.eqv true [(.int .i64),.str,.str,.str,.str]) [s_ 18,s_ 19],oI 21 20,oH 21 (oF 22 18 7),oH 21 (oL 23 1 22),oH 21 (oC 24 .neq 23 1),oH 21 (oI 25 24),oG 25 (oF 26 18 7),oG 25 (oL 27 1 26),oG 25 (oC 28 .neq 27 3),oH 21 (oP 29 25 28),oQ 30 21 29] (oT 30 (.exit 1))) (oR [oV 8 (.bool true)] (.seq (oR [oI 31 0,oO 32 .lensl [s_ 31],oV 33 (n_ 0)] (.block 2 (.loop zpa))) (oR [oI 61 8] (oT 61 (.region [oI 62 5,oM 63 27 7,oO 64 (.buildSl 27 1 (.agg [n_ 0,n_ 0,n_ 0,n_ 0,n_ 0,n_ 0,n_ 0,n_ 0,n_ 0,n_ 0,n_ 0,n_ 0,n_ 0,n_ 0,n_ 0,n_ 0,n_ 0,n_ 0,n_ 0,n_ 0,.str ⟨#[]⟩,.str ⟨#[]⟩,.str ⟨#[]⟩,.str ⟨#[]⟩,n_ 0,n_ 0,.str ⟨#[]⟩]) [0]) [s_ 63],oO 65 (.append 36 27 256) [s_ 62,s_ 64],oI 5 65])))))))) (.region [oC 66 .add 13 1,oI 13 66])))
def zCr:ICode:=oR [oO 3 .boxL [s_ 1],oV 4 .nilsl] (oR [oV 5 .nilsl] (.seq (oR [oI 11 0,oO 12 .lensl [s_ 11],oV 13 (n_ 0)] (.block 0 (.loop zty))) (oR [oI 67 5,oI 4 67] .ret)))
def ztz:IFun:=⟨68,[.slot 4],zCr,6,0,za2⟩
theorem zft:za8 Tryz.prog [1048579,1048583,1048586] 0 zp8=some ztz:=by kernel_rfl
def zib:ICode:=.seq (oR [oI 26 5,oF 27 2 2,oL 28 1 27,oO 29 .lenstr [s_ 28],oB 30 .lss 26 29,oI 31 30,oG 31 (oI 32 5),oG 31 (oF 33 2 3),oG 31 (oL 34 1 33),oG 31 (oO 35 .lenstr [s_ 34]),oG 31 (oB 36 .lss 32 35),oP 37 31 36] (oE 37 0)) (.seq (.block 1 (oR [oF 40 2 2,oK 2 (oL 41 1 40),oI 42 5,oO 43 .ixstr [s_ 41,s_ 42],oF 44 2 3,oK 3 (oL 45 1 44),oI 46 5,oO 47 .ixstr [s_ 45,s_ 46],oB 48 .neq 43 47] (oT 48 (.seq (oR [oF 49 2 2,oK 2 (oL 50 1 49),oI 51 5,oO 52 .ixstr [s_ 50,s_ 51],oF 53 2 3,oK 3 (oL 54 1 53),oI 55 5,oO 56 .ixstr [s_ 54,s_ 55],oB 57 .lss 52 56] (oT 57 (oR [oV 4 (.int .i64 (-1))] .ret))) (oR [oV 4 (n_ 1)] .ret))))) (.region [oI 38 5,oC 39 .add 38 1,oI 5 39]))
def zxm:ICode:=oR [oO 2 .boxL [s_ 0],oO 3 .boxL [s_ 1],oV 4 (n_ 0)] (.seq (oR [oF 6 0 2,oL 7 1 6,oF 8 0 3,oL 9 1 8,oB 10 .neq 7 9] (oT 10 (.seq (oR [oF 11 0 2,oL 12 1 11,oF 13 0 3,oL 14 1 13,oB 15 .lss 12 14] (oT 15 (oR [oV 4 (.int .i64 (-1))] .ret))) (oR [oV 4 (n_ 1)] .ret)))) (.seq (oR [oF 16 1 2,oL 17 1 16,oF 18 1 3,oL 19 1 18,oB 20 .neq 17 19] (oT 20 (.seq (oR [oF 21 1 2,oL 22 1 21,oF 23 1 3,oL 24 1 23,oB 25 .lss 22 24] (oT 25 (oR [oV 4 (.int .i64 (-1))] .ret))) (oR [oV 4 (n_ 1)] .ret)))) (.seq (oR [oV 5 (n_ 0)] (.block 0 (.loop zib))) (.seq (oR [oF 58 2 2,oL 59 1 58,oO 60 .lenstr [s_ 59],oF 61 2 3,oL 62 1 61,oO 63 .lenstr [s_ 62],oB 64 .lss 60 63] (oT 64 (oR [oV 4 (.int .i64 (-1))] .ret))) (.seq (oR [oF 65 2 2,oL 66 1 65,oO 67 .lenstr [s_ 66],oF 68 2 3,oL 69 1 68,oO 70 .lenstr [s_ 69],oB 71 .gtr 67 70] (oT 71 (oR [oV 4 (n_ 1)] .ret))) (oR [oV 4 (n_ 0)] .ret))))))
def znM:IFun:=⟨72,[.slot 4],zxm,6,0,za2⟩
theorem zdY:za8 Tryz.prog [1048578,1048579] 0 zsB=some znM:=by kernel_rfl
def zCs:ICode:=oR [oO 3 .boxL [s_ 1],oV 4 (.bool false)] (oR [oI 5 0,oM 6 5 3,oO 7 (.call zp8) [s_ 5,s_ 6],oO 8 .lensl [s_ 7],oC 9 .gtr 8 0,oI 4 9] .ret)
def ztA:IFun:=⟨10,[.slot 4],zCs,6,1,za2⟩
theorem zfL:za8 Tryz.prog [1048579] 1 zp9=some ztA:=by kernel_rfl
def zlY:ICode:=.seq (oR [oI 8 6,oI 9 0,oO 10 .lenstr [s_ 9],oB 11 .lss 8 10] (oE 11 0)) (.seq (.block 1 (oR [oI 14 0,oI 15 6,oO 16 .ixstr [s_ 14,s_ 15],oI 17 1,oB 18 .eql 16 17] (.cond (s_ 18) (.region [oI 19 5,oO 20 (.buildSl 1 1 (.str ⟨#[]⟩) [0]) [.val (.str ⟨#[]⟩)],oO 21 (.append 9 1 16) [s_ 19,s_ 20],oI 5 21]) (.region [oI 22 5,oI 23 5,oO 24 .lensl [s_ 23],oC 25 .sub 24 1,oI 26 5,oI 27 5,oO 28 .lensl [s_ 27],oC 29 .sub 28 1,oX 30 1 26 29,⟨some 31,none,.load 1 false,[s_ 30],(some (.heap))⟩,oI 32 0,oI 33 6,oI 34 6,oC 35 .add 34 1,oO 36 (.slstr true true) [s_ 32,s_ 33,s_ 35],oB 37 .add 31 36,oX 38 1 22 25,⟨none,none,.store 1,[s_ 38,s_ 37],(some (.heap))⟩])))) (.region [oI 12 6,oC 13 .add 12 1,oI 6 13]))
def zCt:ICode:=oR [oV 4 .nilsl] (oR [oO 7 (.buildR 9 1 1 (.str ⟨#[]⟩) [0]) [.val (.str ⟨#[]⟩)],oI 5 7] (.seq (oR [oV 6 (n_ 0)] (.block 0 (.loop zlY))) (oR [oI 39 5,oI 4 39] .ret)))
def ztB:IFun:=⟨40,[.slot 4],zCt,6,0,za2⟩
theorem zeI:za8 Tryz.prog [7,3145758,3145766] 0 zsC=some ztB:=by kernel_rfl
def zlZ:ICode:=oR [oO 1 .boxL [s_ 0],oV 2 (.bool false)] (.seq (oR [oF 5 1 1,oM 6 5 5,oO 7 (.call zxb) [s_ 6],oO 8 (.un .not) [s_ 7]] (oT 8 (oR [oV 2 (.bool false)] .ret))) (oR [oF 9 1 1,oF 10 0 9,oL 11 1 10,oC 12 .geq 11 4,oI 3 12] (oR [oF 13 6 1,oM 14 3 13,oO 15 (.build [n_ 0,n_ 0,.str ⟨#[]⟩] []) [],oO 16 (.eqv false [(.int .i64),(.int .i64),.str]) [s_ 14,s_ 15],oI 4 16] (.seq (oR [oF 17 0 1,oL 18 1 17] (.block 0 (.seq (oR [oC 20 .eql 18 1,oI 19 20] (.cond (s_ 19) .skip (.region [oC 21 .eql 18 2,oI 19 21]))) (.cond (s_ 19) (oR [oI 22 3,oO 23 (.un .not) [s_ 22],oI 24 23,oG 24 (oI 25 4),oP 26 24 25,oI 2 26] .ret) (oR [oC 28 .eql 18 3,oI 27 28] (.cond (s_ 27) (oR [oI 29 3,oI 30 29,oG 30 (oF 31 6 1),oG 30 (oF 32 0 31),oG 30 (oL 33 1 32),oG 30 (oC 34 .geq 33 1),oP 35 30 34,oI 36 35,oG 36 (oF 37 6 1),oG 36 (oF 38 0 37),oG 36 (oL 39 1 38),oG 36 (oC 40 .leq 39 3),oP 41 36 40,oI 42 41,oG 42 (oF 43 6 1),oG 42 (oM 44 3 43),oG 42 (oO 45 (.call zsk) [s_ 44]),oP 46 42 45,oI 2 46] .ret) (oR [oC 48 .eql 18 4,oI 47 48] (oT 47 (oR [oI 49 3,oI 50 49,oG 50 (oI 51 4),oP 52 50 51,oI 2 52] .ret))))))))) (oR [oV 2 (.bool false)] .ret)))))
def zic:IFun:=⟨53,[.slot 2],zlZ,6,0,za2⟩
theorem zep:za8 Tryz.prog [1048577] 0 zw5=some zic:=by kernel_rfl
def ztC:ICode:=oR [oO 2 .boxL [s_ 0],oO 3 .boxL [s_ 1],oV 4 (.bool false)] (oR [oK 3 (oM 5 2 3),oO 6 (.call zlT) [s_ 5],oI 7 6,oG 7 (oF 8 0 3),oK 3 (oG 7 (oL 9 1 8)),oG 7 (oO 10 (.ixaddrA 16 1) [s_ 2,s_ 9]),oK 2 (oG 7 (oL 11 1 10)),oG 7 (oF 12 1 3),oK 3 (oG 7 (oL 13 1 12)),oG 7 (oC 14 .sub 13 1),oG 7 (oB 15 .eql 11 14),oP 16 7 15,oI 4 16] .ret)
def zjX:IFun:=⟨17,[.slot 4],ztC,6,0,za2⟩
theorem zkM:za8 Tryz.prog [1048578,1048579] 0 zo8=some zjX:=by kernel_rfl
def zzU:ICode:=oR [oC 7 .lss 6 16] (.seq (oE 7 0) (.seq (.block 1 (oR [oO 8 (.ixarr 16 1 false) [s_ 5,s_ 6],oI 4 8] (oR [oI 9 4,oC 10 .lss 9 0,oI 11 10,oH 11 (oI 12 4),oH 11 (oC 13 .gtr 12 1048576),oQ 14 11 13] (oT 14 (oR [oV 2 (.bool false)] .ret))))) (.region [oC 15 .add 6 1,oI 6 15])))
def zzg:ICode:=oR [oO 1 .boxL [s_ 0],oV 2 (.bool false)] (.seq (oR [oM 5 16 1,oV 6 (n_ 0)] (.block 0 (.loop zzU))) (oR [oV 2 (.bool true)] .ret))
def zl0:IFun:=⟨16,[.slot 2],zzg,6,0,za2⟩
theorem zjp:za8 Tryz.prog [1048577] 0 zo9=some zl0:=by kernel_rfl
def zGv:ICode:=oR [oO 1 .boxL [s_ 0],oV 2 (n_ 0)] (.seq (oR [oM 3 9 1,oO 4 (.call zEk) [s_ 3],oO 5 (.un .not) [s_ 4]] (oT 5 (oR [oV 2 (n_ 1)] .ret))) (oR [oV 2 (n_ 0)] .ret))
def zCu:IFun:=⟨6,[.slot 2],zGv,6,0,za2⟩
theorem zjq:za8 Tryz.prog [1048577] 0 zEi=some zCu:=by kernel_rfl
def zGw:ICode:=oR [oO 1 .boxL [s_ 0],oO 2 (.allocL [n_ 0,n_ 0,.str ⟨#[]⟩,.str ⟨#[]⟩,.str ⟨#[]⟩,.str ⟨#[]⟩,n_ 0,n_ 0,.str ⟨#[]⟩]) []] (oR [oF 3 18 1,oL 4 1 3,oF 5 19 1,oM 6 5 5,oF 7 24 1,oM 8 3 7,oO 9 (.build [n_ 0,n_ 0,.str ⟨#[]⟩,.str ⟨#[]⟩,.str ⟨#[]⟩,.str ⟨#[]⟩,n_ 0,n_ 0,.str ⟨#[]⟩] [(0,1),(1,5),(6,3)]) [s_ 4,s_ 6,s_ 8],oS 9 2 9] .ret)
def zCv:IFun:=⟨10,[.cell 2 9 true],zGw,6,0,za2⟩
theorem zqi:za8 Tryz.prog [1048577,1048578] 0 zEj=some zCv:=by kernel_rfl
def ztD:ICode:=oR [oB 9 .lss 8 7] (.seq (oE 9 0) (.seq (.block 1 (oR [oI 10 8,oI 5 10] (oR [oI 11 1,oI 12 0,oI 13 5,oX 14 5 12 13,oM 15 5 14,oO 16 .callv [s_ 11,s_ 15]] (oT 16 (oR [oI 17 5,oI 4 17] .ret))))) (.region [oC 18 .add 8 1,oI 8 18])))
def zzV:ICode:=oR [oV 4 (n_ 0)] (.seq (oR [oI 6 0,oO 7 .lensl [s_ 6],oV 8 (n_ 0)] (.block 0 (.loop ztD))) (oR [oV 4 (.int .i64 (-1))] .ret))
def znN:IFun:=⟨19,[.slot 4],zzV,6,0,za2⟩
theorem zbU:za8 Tryz.prog [] 0 zqa=some znN:=by kernel_rfl
def zpb:ICode:=oR [oO 1 .boxL [s_ 0],oV 2 (.bool false)] (oR [oF 3 0 1,oL 4 1 3,oC 5 .geq 4 0,oI 6 5,oG 6 (oF 7 0 1),oG 6 (oL 8 1 7),oG 6 (oC 9 .lss 8 16),oP 10 6 9,oI 11 10,oG 11 (oF 12 1 1),oG 11 (oL 13 1 12),oG 11 (oC 14 .geq 13 1),oP 15 11 14,oI 16 15,oG 16 (oF 17 1 1),oG 16 (oL 18 1 17),oG 16 (oC 19 .leq 18 1048576),oP 20 16 19,oI 2 20] .ret)
def zid:IFun:=⟨21,[.slot 2],zpb,6,0,za2⟩
theorem zl1:za8 Tryz.prog [1048577] 0 zlT=some zid:=by kernel_rfl
def L0_x2:ICode:=oR [oB 9 .lss 8 7] (.seq (oE 9 0) (.seq (.block 1 (oR [oX 10 1 6 8,oL 11 1 10,oI 5 11] (oR [oI 12 5,oI 13 3,oB 14 .neq 12 13] (oT 14 (oR [oI 15 5,oI 2 15] .ret))))) (.region [oC 16 .add 8 1,oI 8 16])))
def b_x2:ICode:=oR [oV 2 (n_ 0)] (oR [oV 3 (n_ 0)] (.seq (oR [oI 6 0,oO 7 .lensl [s_ 6],oV 8 (n_ 0)] (.block 0 (.loop L0_x2))) (oR [oI 17 3,oI 2 17] .ret)))
def F_x2:IFun:=⟨18,[.slot 2],b_x2,6,0,za2⟩
theorem c_cmp_Orint:za8 Tryz.prog [] 0 f_x2=some F_x2:=by kernel_rfl
def b_x0:ICode:=oR [oV 4 (n_ 0)] (oR [oI 7 0,oO 8 (.call f_x3) [s_ 7],oI 5 8] (oR [oI 9 1,oO 10 (.call f_x3) [s_ 9],oI 6 10] (.seq (oR [oI 11 5] (oT 11 (.seq (oR [oI 12 6] (oT 12 (oR [oV 4 (n_ 0)] .ret))) (oR [oV 4 (.int .i64 (-1))] .ret)))) (.seq (oR [oI 13 6] (oT 13 (oR [oV 4 (n_ 1)] .ret))) (.seq (oR [oI 14 0,oI 15 1,oB 16 .lss 14 15] (oT 16 (oR [oV 4 (.int .i64 (-1))] .ret))) (.seq (oR [oI 17 0,oI 18 1,oB 19 .gtr 17 18] (oT 19 (oR [oV 4 (n_ 1)] .ret))) (oR [oV 4 (n_ 0)] .ret)))))))
def F_x0:IFun:=⟨20,[.slot 4],b_x0,6,0,za2⟩
theorem c_cmp_Compareint:za8 Tryz.prog [] 0 f_x0=some F_x0:=by kernel_rfl
def zzW:ICode:=oR [oO 3 .boxL [s_ 1],oO 4 .freeze [.val .nilsl]] (.seq (oR [oI 5 0,oO 6 (.eq1 false .ptr) [s_ 5,.val .nilptr]] (oT 6 (oR [oO 4 .freeze [.val .nilsl]] .ret))) (oR [oI 7 0,oO 8 .nilchk [s_ 7],oF 9 0 8,⟨some 10,none,.load 1 false,[s_ 9],(some (.heap))⟩,oK 3 (oM 11 5 3),oO 12 (.mlook true [(.int .i64),.str,.str,.str,.str] .nilsl false) [s_ 10,s_ 11],oO 13 (.call zjj) [s_ 12],oO 4 .freeze [s_ 13]] .ret))
def znO:IFun:=⟨14,[.slot 4],zzW,6,0,za2⟩
theorem zeJ:za8 Tryz.prog [1048579,8388612] 0 zqb=some znO:=by kernel_rfl
def zCw:IFun:=⟨8,[],.trap,0,30,zk7⟩
def b_x73:ICode:=oR [oO 2 .boxL [s_ 0],oO 3 .boxL [s_ 1],oV 4 (n_ 0)] (oR [oF 5 0 2,oM 6 5 5,oF 7 0 3,oM 8 5 7,oO 9 (.call f_x71) [s_ 6,s_ 8],oI 4 9] .ret)
def F_x73:IFun:=⟨10,[.slot 4],b_x73,6,0,za2⟩
theorem c_store_Store_All_1:za8 Tryz.prog [1048578,1048579] 0 f_x73=some F_x73:=by kernel_rfl
def b_x71:ICode:=oR [oO 2 .boxL [s_ 0],oO 3 .boxL [s_ 1],oV 4 (n_ 0)] (oR [oF 5 0 2,oK 2 (oL 6 1 5),oF 7 0 3,oK 3 (oL 8 1 7),oO 9 (.call f_x0) [s_ 6,s_ 8],oF 10 1 2,oK 2 (oL 11 1 10),oF 12 1 3,oK 3 (oL 13 1 12),oO 14 (.call f_x1) [s_ 11,s_ 13],oF 15 2 2,oK 2 (oL 16 1 15),oF 17 2 3,oK 3 (oL 18 1 17),oO 19 (.call f_x1) [s_ 16,s_ 18],oF 20 3 2,oK 2 (oL 21 1 20),oF 22 3 3,oK 3 (oL 23 1 22),oO 24 (.call f_x1) [s_ 21,s_ 23],oF 25 4 2,oK 2 (oL 26 1 25),oF 27 4 3,oK 3 (oL 28 1 27),oO 29 (.call f_x1) [s_ 26,s_ 28],oO 30 (.buildSl 1 5 (n_ 0) [0,1,2,3,4]) [s_ 9,s_ 14,s_ 19,s_ 24,s_ 29],oO 31 (.call f_x2) [s_ 30],oI 4 31] .ret)
def F_x71:IFun:=⟨32,[.slot 4],b_x71,6,0,za2⟩
theorem c_store_Order:za8 Tryz.prog [1048578,1048579] 0 f_x71=some F_x71:=by kernel_rfl
def zCx:ICode:=oR [oO 1 .boxL [s_ 0],oO 2 (.allocL [.str ⟨#[]⟩,.str ⟨#[]⟩,.str ⟨#[]⟩]) []] (oR [oF 3 1 1,oL 4 1 3,oF 5 2 1,oL 6 1 5,oF 7 3 1,oL 8 1 7,oO 9 (.build [.str ⟨#[]⟩,.str ⟨#[]⟩,.str ⟨#[]⟩] [(0,1),(1,1),(2,1)]) [s_ 4,s_ 6,s_ 8],oS 3 2 9] .ret)
def ztE:IFun:=⟨10,[.cell 2 3 true],zCx,6,1,za2⟩
theorem zl2:za8 Tryz.prog [1048577,1048578] 1 zsD=some ztE:=by kernel_rfl
def zzX:ICode:=oR [oO 1 .boxL [s_ 0],oO 2 (.allocL [n_ 0,.str ⟨#[]⟩,.str ⟨#[]⟩,.str ⟨#[]⟩,.str ⟨#[]⟩]) []] (.seq (oR [oF 3 0 1,oL 4 1 3,oC 5 .eql 4 5] (oT 5 (oR [oM 6 5 1,oO 7 (.call zsD) [s_ 6],oO 8 (.call znC) [s_ 7],oS 5 2 8] .ret))) (oR [oF 9 1 1,oL 10 1 9,oO 11 (.call zjk) [s_ 10],oS 5 2 11] .ret))
def zqj:IFun:=⟨12,[.cell 2 5 true],zzX,6,1,za2⟩
theorem zkN:za8 Tryz.prog [1048577,1048578,2097262,2097230,2097229] 1 zw7=some zqj:=by kernel_rfl
def ztF:ICode:=oR [oB 13 .lss 12 11] (.seq (oE 13 0) (.seq (.block 1 (oR [oX 14 5 10 12,oM 15 5 14,oO 7 (.allocL [n_ 0,n_ 0,n_ 0,n_ 0,.str ⟨#[]⟩]) [],oS 5 7 15] (.region [oI 16 5,oF 17 2 7,oM 18 3 17,oO 19 (.buildSl 3 1 (.agg [n_ 0,n_ 0,.str ⟨#[]⟩]) [0]) [s_ 18],oO 20 (.appendN 34 3 32) [s_ 16,s_ 19],oI 5 20]))) (.region [oC 21 .add 12 1,oI 12 21])))
def zCy:ICode:=oR [oO 3 .boxL [s_ 1],oO 4 .freeze [.val .nilsl]] (oR [oV 5 .nilsl] (.seq (oR [oI 8 0,oM 9 5 3,oO 10 (.call zqb) [s_ 8,s_ 9],oO 11 .lensl [s_ 10],oV 12 (n_ 0)] (.block 0 (.loop ztF))) (oR [oI 22 5,oO 23 (.call zxc) [s_ 22,.val (.func 141 [] [])]] (oR [oI 24 5,oO 25 (.call zqd) [s_ 24],oO 4 .freeze [s_ 25]] .ret))))
def ztG:IFun:=⟨26,[.slot 4],zCy,6,1,za2⟩
theorem zfu:za8 Tryz.prog [1048579,1048583,16777236,8388612] 1 zsE=some ztG:=by kernel_rfl
def b_x1:ICode:=oR [oV 4 (n_ 0)] (oR [oI 7 0,oO 8 (.call f_x4) [s_ 7],oI 5 8] (oR [oI 9 1,oO 10 (.call f_x4) [s_ 9],oI 6 10] (.seq (oR [oI 11 5] (oT 11 (.seq (oR [oI 12 6] (oT 12 (oR [oV 4 (n_ 0)] .ret))) (oR [oV 4 (.int .i64 (-1))] .ret)))) (.seq (oR [oI 13 6] (oT 13 (oR [oV 4 (n_ 1)] .ret))) (.seq (oR [oI 14 0,oI 15 1,oB 16 .lss 14 15] (oT 16 (oR [oV 4 (.int .i64 (-1))] .ret))) (.seq (oR [oI 17 0,oI 18 1,oB 19 .gtr 17 18] (oT 19 (oR [oV 4 (n_ 1)] .ret))) (oR [oV 4 (n_ 0)] .ret)))))))
def F_x1:IFun:=⟨20,[.slot 4],b_x1,6,0,za2⟩
theorem c_cmp_Comparestring:za8 Tryz.prog [] 0 f_x1=some F_x1:=by kernel_rfl
def zie:ICode:=oR [oO 7 .next [s_ 6],oO 8 (.extract 0) [s_ 7]] (.seq (oE 8 0) (.block 1 (oR [oO 9 (.extract 2) [s_ 7],oI 4 9] (oR [oI 10 4,oO 11 (.bin .lss) [s_ 10,.val (.int .i32 32)],oI 12 11,oH 12 (oI 13 4),oH 12 (oO 14 (.bin .gtr) [s_ 13,.val (.int .i32 126)]),oQ 15 12 14] (oT 15 (oR [oV 2 (.bool false)] .ret))))))
def zCz:ICode:=oR [oV 2 (.bool false)] (.seq (oR [oI 5 0,oO 6 .range [s_ 5]] (.block 0 (.loop zie))) (oR [oI 16 0,oO 17 .lenstr [s_ 16],oC 18 .leq 17 64,oI 2 18] .ret))
def ztH:IFun:=⟨19,[.slot 2],zCz,6,0,za2⟩
theorem zkO:za8 Tryz.prog [] 0 zw8=some ztH:=by kernel_rfl
def zl3:ICode:=oR [oB 20 .lss 19 18] (.seq (oE 20 0) (.seq (.block 1 (oR [oI 21 19,oI 3 21] (oR [oI 22 0,oI 23 3,oO 24 .ixstr [s_ 22,s_ 23],oO 25 (.call zxd) [s_ 24],oO 26 (.un .not) [s_ 25]] (oT 26 (oR [oV 2 (.bool false)] .ret))))) (.region [oC 27 .add 19 1,oI 19 27])))
def ztI:ICode:=oR [oV 2 (.bool false)] (.seq (oR [oI 4 0,oO 5 (.bin .eql) [s_ 4,.val (.str ⟨#[]⟩)],oI 6 5,oH 6 (oI 7 0),oH 6 (oO 8 .lenstr [s_ 7]),oH 6 (oC 9 .gtr 8 16),oQ 10 6 9,oI 11 10,oH 11 (oI 12 0),oH 11 (oO 13 .ixstr [s_ 12,.val (n_ 0)]),oH 11 (oO 14 (.call zsI) [s_ 13]),oH 11 (oO 15 (.un .not) [s_ 14]),oQ 16 11 15] (oT 16 (oR [oV 2 (.bool false)] .ret))) (.seq (oR [oI 17 0,oO 18 .lenstr [s_ 17],oV 19 (n_ 0)] (.block 0 (.loop zl3))) (oR [oV 2 (.bool true)] .ret)))
def zl4:IFun:=⟨28,[.slot 2],ztI,6,0,za2⟩
theorem zl5:za8 Tryz.prog [] 0 zqc=some zl4:=by kernel_rfl
def zqk:ICode:=oR [oO 1 .boxL [s_ 0],oO 2 (.allocL [.str ⟨#[]⟩,.str ⟨#[]⟩,.str ⟨#[]⟩]) [],oV 3 (.bool false)] (oR [oF 5 2 1,oL 6 1 5,oO 7 (.call zzL) [s_ 6,.val (.str ⟨#[62]⟩)],oI 4 7] (.seq (oR [oF 8 0 1,oL 9 1 8,oC 10 .neq 9 5,oI 11 10,oH 11 (oF 12 1 1),oH 11 (oL 13 1 12),oH 11 (oC 14 .neq 13 0),oQ 15 11 14,oI 16 15,oH 16 (oI 17 4),oH 16 (oO 18 .lensl [s_ 17]),oH 16 (oC 19 .neq 18 3),oQ 20 16 19,oI 21 20,oH 21 (oI 22 4),oH 21 (oO 23 (.call zgY) [s_ 22]),oH 21 (oO 24 (.un .not) [s_ 23]),oQ 25 21 24] (oT 25 (oR [oO 26 (.build [.str ⟨#[]⟩,.str ⟨#[]⟩,.str ⟨#[]⟩] []) [],oS 3 2 26,oV 3 (.bool false)] .ret))) (oR [oI 27 4,oO 28 (.ixaddr 1) [s_ 27,.val (n_ 0)],⟨some 29,none,.load 1 false,[s_ 28],(some (.el))⟩,oI 30 4,oO 31 (.ixaddr 1) [s_ 30,.val (n_ 1)],⟨some 32,none,.load 1 false,[s_ 31],(some (.el))⟩,oI 33 4,oO 34 (.ixaddr 1) [s_ 33,.val (n_ 2)],⟨some 35,none,.load 1 false,[s_ 34],(some (.el))⟩,oO 36 (.build [.str ⟨#[]⟩,.str ⟨#[]⟩,.str ⟨#[]⟩] [(0,1),(2,1),(1,1)]) [s_ 29,s_ 32,s_ 35],oK 2 (oS 3 2 36),oV 3 (.bool true)] .ret)))
def zkP:IFun:=⟨37,[.cell 2 3 true,.slot 3],zqk,6,0,za2⟩
theorem zl6:za8 Tryz.prog [1048577,1048578,2097308] 0 zsF=some zkP:=by kernel_rfl
def ztJ:IFun:=⟨8,[],.trap,5,17,za2⟩
def zkQ:ICode:=oR [oO 1 .boxL [s_ 0],oV 2 (.str ⟨#[]⟩)] (.seq (oR [oM 3 3 1,oO 4 (.call zsw) [s_ 3],oO 5 (.un .not) [s_ 4]] (oT 5 (oR [oV 2 (.str ⟨#[]⟩)] .ret))) (.seq (oR [oF 6 0 1,oL 7 1 6] (.block 0 (oR [oC 9 .eql 7 0,oI 8 9] (.cond (s_ 8) (oR [oV 2 (.str ⟨#[110,117,108,108]⟩)] .ret) (oR [oC 11 .eql 7 1,oI 10 11] (.cond (s_ 10) (oR [oF 12 1 1,oL 13 1 12,oC 14 .eql 13 1,oO 15 (.call zxe) [s_ 14],oI 2 15] .ret) (oR [oC 17 .eql 7 2,oI 16 17] (.cond (s_ 16) (oR [oF 18 1 1,oL 19 1 18,oO 20 (.call zzN) [s_ 19],oI 2 20] .ret) (oR [oC 22 .eql 7 3,oI 21 22] (.cond (s_ 21) (oR [oF 23 2 1,oL 24 1 23,oO 25 (.call zxf) [s_ 24],oI 2 25] .ret) (oR [oC 27 .eql 7 4,oI 26 27] (oT 26 (oR [oF 28 2 1,oL 29 1 28,oO 30 (.bin .add) [.val (.str ⟨#[40]⟩),s_ 29],oO 31 (.bin .add) [s_ 30,.val (.str ⟨#[41]⟩)],oI 2 31] .ret))))))))))))) (oR [oF 32 2 1,oL 33 1 32,oO 34 (.bin .add) [.val (.str ⟨#[91]⟩),s_ 33],oO 35 (.bin .add) [s_ 34,.val (.str ⟨#[93]⟩)],oI 2 35] .ret)))
def zhM:IFun:=⟨36,[.slot 2],zkQ,6,0,za2⟩
theorem zjr:za8 Tryz.prog [1048577,2097317,2097318] 0 zsG=some zhM:=by kernel_rfl
def zjY:ICode:=.seq (oR [oI 34 4,oF 35 2 1,oL 36 1 35,oO 37 .lenstr [s_ 36],oB 38 .lss 34 37] (oE 38 1)) (.seq (.block 2 (.seq (oR [oF 41 2 1,oL 42 1 41,oI 43 4,oO 44 .ixstr [s_ 42,s_ 43],oO 45 (.bin .eql) [s_ 44,.val (.int .u8 39)],oI 46 45,oH 46 (oF 47 2 1),oH 46 (oL 48 1 47),oH 46 (oI 49 4),oH 46 (oO 50 .ixstr [s_ 48,s_ 49]),oH 46 (oO 51 (.bin .eql) [s_ 50,.val (.int .u8 92)]),oQ 52 46 51] (oT 52 (.region [oI 53 3,oO 54 (.buildSl 1 1 (.int .u8 0) [0]) [.val (.int .u8 92)],oO 55 .b2s [s_ 54],oB 56 .add 53 55,oI 3 56]))) (.region [oI 57 3,oF 58 2 1,oL 59 1 58,oI 60 4,oI 61 4,oC 62 .add 61 1,oO 63 (.slstr true true) [s_ 59,s_ 60,s_ 62],oB 64 .add 57 63,oI 3 64]))) (.region [oI 39 4,oC 40 .add 39 1,oI 4 40]))
def zkR:ICode:=oR [oO 1 .boxL [s_ 0],oV 2 (.str ⟨#[]⟩)] (.seq (oR [oM 5 3 1,oO 6 (.call zsk) [s_ 5],oO 7 (.un .not) [s_ 6]] (oT 7 (oR [oV 2 (.str ⟨#[]⟩)] .ret))) (.seq (oR [oF 8 0 1,oL 9 1 8] (.block 0 (oR [oC 11 .eql 9 0,oI 10 11] (.cond (s_ 10) (oR [oV 2 (.str ⟨#[110,117,108,108]⟩)] .ret) (oR [oC 13 .eql 9 1,oI 12 13] (.cond (s_ 12) (.seq (oR [oF 14 1 1,oL 15 1 14,oC 16 .eql 15 1] (oT 16 (oR [oV 2 (.str ⟨#[116,114,117,101]⟩)] .ret))) (oR [oV 2 (.str ⟨#[102,97,108,115,101]⟩)] .ret)) (oR [oC 18 .eql 9 2,oI 17 18] (.cond (s_ 17) (oR [oF 19 1 1,oL 20 1 19,oO 21 (.call znD) [s_ 20],oI 2 21] .ret) (oR [oC 23 .eql 9 4,oI 22 23] (.cond (s_ 22) (oR [oF 24 2 1,oL 25 1 24,oO 26 (.bin .add) [.val (.str ⟨#[40]⟩),s_ 25],oO 27 (.bin .add) [s_ 26,.val (.str ⟨#[41]⟩)],oI 2 27] .ret) (oR [oC 29 .eql 9 5,oI 28 29] (oT 28 (oR [oF 30 2 1,oL 31 1 30,oO 32 (.bin .add) [.val (.str ⟨#[91]⟩),s_ 31],oO 33 (.bin .add) [s_ 32,.val (.str ⟨#[93]⟩)],oI 2 33] .ret))))))))))))) (oR [oV 3 (.str ⟨#[39]⟩)] (.seq (oR [oV 4 (n_ 0)] (.block 1 (.loop zjY))) (oR [oI 65 3,oO 66 (.bin .add) [s_ 65,.val (.str ⟨#[39]⟩)],oI 2 66] .ret)))))
def zhN:IFun:=⟨67,[.slot 2],zkR,6,0,za2⟩
theorem zfv:za8 Tryz.prog [1048577] 0 zsH=some zhN:=by kernel_rfl
def znP:ICode:=oR [oO 2 .boxL [s_ 0],oO 3 .boxL [s_ 1],oV 4 (.bool false)] (.seq (oR [oF 5 0 2,oL 6 1 5,oF 7 0 3,oL 8 1 7,oB 9 .neq 6 8] (oT 9 (oR [oF 10 0 2,oL 11 1 10,oF 12 0 3,oL 13 1 12,oB 14 .lss 11 13,oI 4 14] .ret))) (.seq (oR [oF 15 1 2,oL 16 1 15,oF 17 1 3,oL 18 1 17,oB 19 .neq 16 18] (oT 19 (oR [oF 20 1 2,oL 21 1 20,oF 22 1 3,oL 23 1 22,oB 24 .lss 21 23,oI 4 24] .ret))) (.seq (oR [oF 25 2 2,oL 26 1 25,oF 27 2 3,oL 28 1 27,oB 29 .neq 26 28] (oT 29 (oR [oF 30 2 2,oL 31 1 30,oF 32 2 3,oL 33 1 32,oB 34 .lss 31 33,oI 4 34] .ret))) (.seq (oR [oF 35 3 2,oL 36 1 35,oF 37 3 3,oL 38 1 37,oB 39 .neq 36 38] (oT 39 (oR [oF 40 3 2,oL 41 1 40,oF 42 3 3,oL 43 1 42,oB 44 .lss 41 43,oI 4 44] .ret))) (oR [oF 45 4 2,oL 46 1 45,oF 47 4 3,oL 48 1 47,oB 49 .lss 46 48,oI 4 49] .ret)))))
def zjs:IFun:=⟨50,[.slot 4],znP,6,0,za2⟩
theorem zfw:za8 Tryz.prog [1048578,1048579] 0 zw9=some zjs:=by kernel_rfl
def zCA:ICode:=oR [oO 2 .boxL [s_ 0],oO 3 .boxL [s_ 1],oV 4 (.bool false)] (oR [oF 5 0 3,oK 3 (oL 6 1 5),oO 7 (.ixaddrA 16 1) [s_ 2,s_ 6],oK 2 (oL 8 1 7),oF 9 1 3,oK 3 (oL 10 1 9),oB 11 .geq 8 10,oI 4 11] .ret)
def ztK:IFun:=⟨12,[.slot 4],zCA,6,0,za2⟩
theorem zeK:za8 Tryz.prog [1048578,1048579] 0 zxa=some ztK:=by kernel_rfl
def zgc:ICode:=oR [oO 1 .boxL [s_ 0],oV 2 (.bool false)] (oR [oF 7 1 1,oK 1 (oL 8 1 7),oO 9 (.call zhI) [s_ 8],oF 10 2 1,oK 1 (oL 11 1 10),oO 12 (.call zhI) [s_ 11],oF 13 3 1,oK 1 (oL 14 1 13),oO 15 (.call zhI) [s_ 14],oF 16 4 1,oK 1 (oL 17 1 16),oO 18 (.call zhI) [s_ 17],oI 3 9,oI 4 12,oI 5 15,oI 6 18] (.seq (oR [oF 19 0 1,oL 20 1 19] (.block 0 (oR [oC 22 .eql 20 1,oI 21 22] (.cond (s_ 21) (oR [oI 23 3,oI 24 23,oG 24 (oF 25 2 1),oG 24 (oL 26 1 25),oG 24 (oO 27 (.bin .eql) [s_ 26,.val (.str ⟨#[]⟩)]),oP 28 24 27,oI 29 28,oG 29 (oF 30 3 1),oG 29 (oL 31 1 30),oG 29 (oO 32 (.bin .eql) [s_ 31,.val (.str ⟨#[]⟩)]),oP 33 29 32,oI 34 33,oG 34 (oF 35 4 1),oG 34 (oL 36 1 35),oG 34 (oO 37 (.bin .eql) [s_ 36,.val (.str ⟨#[]⟩)]),oP 38 34 37,oI 2 38] .ret) (.seq (oR [oC 40 .eql 20 2,oI 39 40] (.cond (s_ 39) .skip (.region [oC 41 .eql 20 4,oI 39 41]))) (.cond (s_ 39) (oR [oI 42 3,oI 43 42,oG 43 (oF 44 2 1),oG 43 (oL 45 1 44),oG 43 (oO 46 (.bin .eql) [s_ 45,.val (.str ⟨#[]⟩)]),oP 47 43 46,oI 48 47,oG 48 (oF 49 3 1),oG 48 (oL 50 1 49),oG 48 (oO 51 (.bin .eql) [s_ 50,.val (.str ⟨#[]⟩)]),oP 52 48 51,oI 53 52,oG 53 (oI 54 6),oP 55 53 54,oI 2 55] .ret) (oR [oC 57 .eql 20 3,oI 56 57] (.cond (s_ 56) (oR [oI 58 3,oI 59 58,oG 59 (oI 60 4),oP 61 59 60,oI 62 61,oG 62 (oI 63 5),oP 64 62 63,oI 65 64,oG 65 (oF 66 4 1),oG 65 (oL 67 1 66),oG 65 (oO 68 (.bin .eql) [s_ 67,.val (.str ⟨#[]⟩)]),oP 69 65 68,oI 2 69] .ret) (oR [oC 71 .eql 20 5,oI 70 71] (oT 70 (oR [oI 72 3,oI 73 72,oG 73 (oI 74 4),oP 75 73 74,oI 76 75,oG 76 (oI 77 5),oP 78 76 77,oI 79 78,oG 79 (oI 80 6),oP 81 79 80,oI 2 81] .ret))))))))))) (oR [oV 2 (.bool false)] .ret)))
def zeL:IFun:=⟨82,[.slot 2],zgc,6,0,za2⟩
theorem zfx:za8 Tryz.prog [1048577] 0 zxb=some zeL:=by kernel_rfl
def zzY:ICode:=oR [oO 1 .boxL [s_ 0],oV 2 (.bool false)] (.seq (oR [oF 4 1 1,oM 5 5 4,oO 6 (.call zxg) [s_ 5],oO 7 (.un .not) [s_ 6]] (oT 7 (oR [oV 2 (.bool false)] .ret))) (oR [oF 8 6 1,oM 9 3 8,oO 10 (.build [n_ 0,n_ 0,.str ⟨#[]⟩] []) [],oO 11 (.eqv false [(.int .i64),(.int .i64),.str]) [s_ 9,s_ 10],oI 3 11] (.seq (oR [oF 12 0 1,oL 13 1 12] (.block 0 (.seq (oR [oC 15 .eql 13 1,oI 14 15] (.cond (s_ 14) .skip (.region [oC 16 .eql 13 2,oI 14 16]))) (.cond (s_ 14) (oR [oI 17 3,oI 18 17,oG 18 (oF 19 1 1),oG 18 (oM 20 5 19),oG 18 (oO 21 (.call zBd) [s_ 20]),oG 18 (oO 22 (.un .not) [s_ 21]),oP 23 18 22,oI 2 23] .ret) (oR [oC 25 .eql 13 3,oI 24 25] (.cond (s_ 24) (oR [oF 26 1 1,oM 27 5 26,oO 28 (.call zBd) [s_ 27],oI 29 28,oG 29 (oF 30 6 1),oG 29 (oM 31 3 30),oG 29 (oO 32 (.call zxh) [s_ 31]),oP 33 29 32,oI 2 33] .ret) (oR [oC 35 .eql 13 4,oI 34 35] (oT 34 (oR [oI 36 3,oI 37 36,oG 37 (oF 38 1 1),oG 37 (oM 39 5 38),oG 37 (oO 40 (.call zBd) [s_ 39]),oP 41 37 40,oI 2 41] .ret))))))))) (oR [oV 2 (.bool false)] .ret))))
def zwt:IFun:=⟨42,[.slot 2],zzY,6,0,za2⟩
theorem znQ:za8 Tryz.prog [1048577] 0 zEk=some zwt:=by kernel_rfl
def b_x3:ICode:=oR [oV 2 (.bool false)] (oR [oI 3 0,oI 4 0,oB 5 .neq 3 4,oI 2 5] .ret)
def F_x3:IFun:=⟨6,[.slot 2],b_x3,6,0,za2⟩
theorem c_cmp_isNaNint:za8 Tryz.prog [] 0 f_x3=some F_x3:=by kernel_rfl
def zCB:IFun:=⟨8,[],.trap,0,30,zk8⟩
def b_x88:ICode:=oR [oO 2 .boxL [s_ 0],oO 3 .boxL [s_ 1],oV 4 (n_ 0)] (oR [oF 5 0 2,oK 2 (oL 6 1 5),oF 7 0 3,oK 3 (oL 8 1 7),oO 9 (.call f_x0) [s_ 6,s_ 8],oF 10 1 2,oK 2 (oL 11 1 10),oF 12 1 3,oK 3 (oL 13 1 12),oO 14 (.call f_x0) [s_ 11,s_ 13],oF 15 2 2,oK 2 (oL 16 1 15),oF 17 2 3,oK 3 (oL 18 1 17),oO 19 (.call f_x1) [s_ 16,s_ 18],oO 20 (.buildSl 1 3 (n_ 0) [0,1,2]) [s_ 9,s_ 14,s_ 19],oO 21 (.call f_x2) [s_ 20],oI 4 21] .ret)
def F_x88:IFun:=⟨22,[.slot 4],b_x88,6,0,za2⟩
theorem c_value_Compare:za8 Tryz.prog [1048578,1048579] 0 f_x88=some F_x88:=by kernel_rfl
def zjZ:ICode:=.seq (oR [oI 29 5,oI 30 4,oO 31 .lensl [s_ 30],oB 32 .lss 29 31] (oE 32 2)) (.seq (.block 3 (oR [oI 35 4,oI 36 5,oX 37 3 35 36,⟨some 38,none,.load 3 true,[s_ 37],(some (.heap))⟩,oI 39 4,oI 40 5,oC 41 .sub 40 1,oX 42 3 39 41,⟨some 43,none,.load 3 true,[s_ 42],(some (.heap))⟩,oO 44 (.eqv true [(.int .i64),(.int .i64),.str]) [s_ 38,s_ 43]] (oT 44 (oR [oI 45 0,oI 46 3,oI 47 4,oI 48 5,oX 49 3 47 48,oM 50 3 49,oX 51 3 45 46,oS 3 51 50] (.region [oI 52 3,oC 53 .add 52 1,oI 3 53]))))) (.region [oI 33 5,oC 34 .add 33 1,oI 5 34]))
def zif:ICode:=.seq (oR [oI 10 3,oI 11 0,oO 12 .lensl [s_ 11],oB 13 .lss 10 12] (oE 13 0)) (.seq (.block 1 (oR [oI 16 0,oI 17 3,oX 18 3 16 17,⟨some 19,none,.load 3 true,[s_ 18],(some (.heap))⟩,oI 20 0,oI 21 3,oC 22 .sub 21 1,oX 23 3 20 22,⟨some 24,none,.load 3 true,[s_ 23],(some (.heap))⟩,oO 25 (.eqv false [(.int .i64),(.int .i64),.str]) [s_ 19,s_ 24]] (oT 25 (oR [oI 26 0,oI 27 3,oO 28 (.slsl 3 true false false) [s_ 26,s_ 27],oI 4 28] (.seq (oR [oV 5 (n_ 1)] (.block 2 (.loop zjZ))) (oR [oI 54 0,oI 55 3,oO 56 (.slsl 3 true false false) [s_ 54,s_ 55],⟨none,none,.clearR 3 ((.agg [n_ 0,n_ 0,.str ⟨#[]⟩])),[s_ 56],none⟩] (oR [oI 57 0,oI 58 3,oO 59 (.slsl 3 false true false) [s_ 57,s_ 58],oI 2 59] .ret))))))) (.region [oI 14 3,oC 15 .add 14 1,oI 3 15]))
def zzZ:ICode:=oR [oV 2 .nilsl] (.seq (oR [oI 6 0,oO 7 .lensl [s_ 6],oC 8 .lss 7 2] (oT 8 (oR [oI 9 0,oI 2 9] .ret))) (.seq (oR [oV 3 (n_ 1)] (.block 0 (.loop zif))) (oR [oI 60 0,oI 2 60] .ret)))
def znR:IFun:=⟨61,[.slot 2],zzZ,6,0,za2⟩
theorem zcp:za8 Tryz.prog [3145746,3145751,3145765,3145770] 0 zqd=some znR:=by kernel_rfl
def b_x4:ICode:=oR [oV 2 (.bool false)] (oR [oI 3 0,oI 4 0,oB 5 .neq 3 4,oI 2 5] .ret)
def F_x4:IFun:=⟨6,[.slot 2],b_x4,6,0,za2⟩
theorem c_cmp_isNaNstring:za8 Tryz.prog [] 0 f_x4=some F_x4:=by kernel_rfl
def zCC:ICode:=oR [oV 2 (.bool false)] (oR [oI 3 0,oO 4 (.bin .geq) [s_ 3,.val (.int .u8 97)],oI 5 4,oG 5 (oI 6 0),oG 5 (oO 7 (.bin .leq) [s_ 6,.val (.int .u8 122)]),oP 8 5 7,oI 9 8,oH 9 (oI 10 0),oH 9 (oO 11 (.bin .geq) [s_ 10,.val (.int .u8 65)]),oH 9 (oI 12 11),oG 12 (oI 13 0),oG 12 (oO 14 (.bin .leq) [s_ 13,.val (.int .u8 90)]),oH 9 (oP 15 12 14),oQ 16 9 15,oI 2 16] .ret)
def ztL:IFun:=⟨17,[.slot 2],zCC,6,0,za2⟩
theorem zjt:za8 Tryz.prog [] 0 zsI=some ztL:=by kernel_rfl
def ztM:ICode:=oR [oV 2 (.bool false)] (oR [oI 3 0,oO 4 (.call zsI) [s_ 3],oI 5 4,oH 5 (oI 6 0),oH 5 (oO 7 (.bin .geq) [s_ 6,.val (.int .u8 48)]),oH 5 (oI 8 7),oG 8 (oI 9 0),oG 8 (oO 10 (.bin .leq) [s_ 9,.val (.int .u8 57)]),oH 5 (oP 11 8 10),oQ 12 5 11,oI 13 12,oH 13 (oI 14 0),oH 13 (oO 15 (.bin .eql) [s_ 14,.val (.int .u8 95)]),oQ 16 13 15,oI 2 16] .ret)
def zl7:IFun:=⟨17,[.slot 2],ztM,6,0,za2⟩
theorem zkS:za8 Tryz.prog [] 0 zxd=some zl7:=by kernel_rfl
def zxn:IFun:=⟨8,[],.trap,0,11,za2⟩
def zgd:ICode:=oR [oB 8 .lss 7 6] (.seq (oE 8 0) (.seq (.block 1 (oR [oX 9 1 5 7,oL 10 1 9,oI 4 10] (oR [oI 11 4,oO 12 (.call zqc) [s_ 11],oO 13 (.un .not) [s_ 12]] (oT 13 (oR [oV 2 (.bool false)] .ret))))) (.region [oC 14 .add 7 1,oI 7 14])))
def zql:ICode:=oR [oV 2 (.bool false)] (.seq (oR [oI 5 0,oO 6 .lensl [s_ 5],oV 7 (n_ 0)] (.block 0 (.loop zgd))) (oR [oV 2 (.bool true)] .ret))
def zju:IFun:=⟨15,[.slot 2],zql,6,0,za2⟩
theorem zkT:za8 Tryz.prog [] 0 zgY=some zju:=by kernel_rfl
def ztN:IFun:=⟨8,[],.trap,176,20,za2⟩
def zCD:ICode:=oR [oV 2 (.str ⟨#[]⟩)] (oR [oI 3 0,oO 4 (.call zxi) [s_ 3],oI 2 4] .ret)
def ztO:IFun:=⟨5,[.slot 2],zCD,6,0,za2⟩
theorem zfy:za8 Tryz.prog [] 0 zxe=some ztO:=by kernel_rfl
def zxo:IFun:=⟨8,[],.trap,0,12,za2⟩
def zj0:ICode:=oR [oB 11 .lss 10 9] (.seq (oE 11 0) (.seq (.block 1 (oR [oX 12 1 8 10,oL 13 1 12,oI 5 13] (.seq (oR [oI 14 5,oO 15 (.bin .eql) [s_ 14,.val (.int .u8 39)],oI 16 15,oH 16 (oI 17 5),oH 16 (oO 18 (.bin .eql) [s_ 17,.val (.int .u8 92)]),oQ 19 16 18] (oT 19 (.region [oO 20 (.call znE) [s_ 3,.val (.int .u8 92)]]))) (.region [oI 21 5,oO 22 (.call znE) [s_ 3,s_ 21]])))) (.region [oC 23 .add 10 1,oI 10 23])))
def zCE:ICode:=oR [oV 2 (.str ⟨#[]⟩)] (oR [oO 3 (.allocH 176 [.nilptr,.nilsl]) []] (oR [oO 6 (.call znE) [s_ 3,.val (.int .u8 39)]] (.seq (oR [oI 7 0,oO 8 .s2b [s_ 7],oO 9 .lensl [s_ 8],oV 10 (n_ 0)] (.block 0 (.loop zj0))) (oR [oO 24 (.call znE) [s_ 3,.val (.int .u8 39)]] (oR [oO 25 (.call zzK) [s_ 3],oI 2 25] .ret)))))
def ztP:IFun:=⟨26,[.slot 2],zCE,6,1,za2⟩
theorem zjv:za8 Tryz.prog [3,2097280] 1 zxf=some ztP:=by kernel_rfl
def zCF:ICode:=oR [oV 2 (.str ⟨#[]⟩)] (.seq (oR [oI 3 0,oC 4 .lss 3 0,oI 5 4,oG 5 (oI 6 0),oG 5 (oC 7 .gtr 6 (-10)),oP 8 5 7] (oT 8 (oR [oI 9 0,oO 10 (.bin .sub) [.val (n_ 48),s_ 9],oO 11 (.conv .u8) [s_ 10],oO 12 (.buildSl 1 1 (.int .u8 0) [0]) [s_ 11],oO 13 .b2s [s_ 12],oO 14 (.bin .add) [.val (.str ⟨#[45]⟩),s_ 13],oI 2 14] .ret))) (.seq (oR [oI 15 0,oC 16 .lss 15 0] (oT 16 (oR [oI 17 0,oC 18 .quo 17 10,oO 19 (.call znD) [s_ 18],oI 20 0,oC 21 .rem 20 10,oO 22 (.bin .sub) [.val (n_ 48),s_ 21],oO 23 (.conv .u8) [s_ 22],oO 24 (.buildSl 1 1 (.int .u8 0) [0]) [s_ 23],oO 25 .b2s [s_ 24],oB 26 .add 19 25,oI 2 26] .ret))) (.seq (oR [oI 27 0,oC 28 .lss 27 10] (oT 28 (oR [oI 29 0,oO 30 (.bin .add) [.val (n_ 48),s_ 29],oO 31 (.conv .u8) [s_ 30],oO 32 (.buildSl 1 1 (.int .u8 0) [0]) [s_ 31],oO 33 .b2s [s_ 32],oI 2 33] .ret))) (oR [oI 34 0,oC 35 .quo 34 10,oO 36 (.call znD) [s_ 35],oI 37 0,oC 38 .rem 37 10,oO 39 (.bin .add) [.val (n_ 48),s_ 38],oO 40 (.conv .u8) [s_ 39],oO 41 (.buildSl 1 1 (.int .u8 0) [0]) [s_ 40],oO 42 .b2s [s_ 41],oB 43 .add 36 42,oI 2 43] .ret))))
def ztQ:IFun:=⟨44,[.slot 2],zCF,6,0,za2⟩
theorem zeq:za8 Tryz.prog [] 0 znD=some ztQ:=by kernel_rfl
def zig:ICode:=oR [oO 1 .boxL [s_ 0],oV 2 (.bool false)] (.seq (oR [oF 3 0 1,oL 4 1 3] (.block 0 (oR [oC 6 .eql 4 1,oI 5 6] (.cond (s_ 5) (oR [oF 7 1 1,oL 8 1 7,oO 9 (.buildSl 1 1 (.str ⟨#[]⟩) [0]) [s_ 8],oO 10 (.call zgY) [s_ 9],oI 11 10,oG 11 (oF 12 2 1),oG 11 (oL 13 1 12),oG 11 (oF 14 3 1),oG 11 (oL 15 1 14),oG 11 (oF 16 4 1),oG 11 (oL 17 1 16),oG 11 (oO 18 (.buildSl 1 3 (.str ⟨#[]⟩) [0,1,2]) [s_ 13,s_ 15,s_ 17]),oG 11 (oO 19 (.call zkG) [s_ 18]),oP 20 11 19,oI 2 20] .ret) (.seq (oR [oC 22 .eql 4 2,oI 21 22] (.cond (s_ 21) .skip (.region [oC 23 .eql 4 4,oI 21 23]))) (.cond (s_ 21) (oR [oF 24 1 1,oL 25 1 24,oF 26 4 1,oL 27 1 26,oO 28 (.buildSl 1 2 (.str ⟨#[]⟩) [0,1]) [s_ 25,s_ 27],oO 29 (.call zgY) [s_ 28],oI 30 29,oG 30 (oF 31 2 1),oG 30 (oL 32 1 31),oG 30 (oF 33 3 1),oG 30 (oL 34 1 33),oG 30 (oO 35 (.buildSl 1 2 (.str ⟨#[]⟩) [0,1]) [s_ 32,s_ 34]),oG 30 (oO 36 (.call zkG) [s_ 35]),oP 37 30 36,oI 2 37] .ret) (oR [oC 39 .eql 4 3,oI 38 39] (.cond (s_ 38) (oR [oF 40 1 1,oL 41 1 40,oF 42 2 1,oL 43 1 42,oF 44 3 1,oL 45 1 44,oO 46 (.buildSl 1 3 (.str ⟨#[]⟩) [0,1,2]) [s_ 41,s_ 43,s_ 45],oO 47 (.call zgY) [s_ 46],oI 48 47,oG 48 (oF 49 4 1),oG 48 (oL 50 1 49),oG 48 (oO 51 (.buildSl 1 1 (.str ⟨#[]⟩) [0]) [s_ 50]),oG 48 (oO 52 (.call zkG) [s_ 51]),oP 53 48 52,oI 2 53] .ret) (oR [oC 55 .eql 4 5,oI 54 55] (oT 54 (oR [oF 56 1 1,oL 57 1 56,oF 58 2 1,oL 59 1 58,oF 60 3 1,oL 61 1 60,oF 62 4 1,oL 63 1 62,oO 64 (.buildSl 1 4 (.str ⟨#[]⟩) [0,1,2,3]) [s_ 57,s_ 59,s_ 61,s_ 63],oO 65 (.call zgY) [s_ 64],oI 2 65] .ret))))))))))) (oR [oV 2 (.bool false)] .ret))
def zge:IFun:=⟨66,[.slot 2],zig,6,0,za2⟩
theorem zl8:za8 Tryz.prog [1048577] 0 zxg=some zge:=by kernel_rfl
def zEV:ICode:=oR [oO 1 .boxL [s_ 0],oV 2 (.bool false)] (oR [oF 3 0 1,oL 4 1 3,oC 5 .eql 4 4,oI 6 5,oH 6 (oF 7 0 1),oH 6 (oL 8 1 7),oH 6 (oC 9 .eql 8 5),oQ 10 6 9,oI 2 10] .ret)
def zBe:IFun:=⟨11,[.slot 2],zEV,6,0,za2⟩
theorem zl9:za8 Tryz.prog [1048577] 0 zBd=some zBe:=by kernel_rfl
def zxp:ICode:=oR [oO 1 .boxL [s_ 0],oV 2 (.bool false)] (oR [oF 3 0 1,oL 4 1 3,oC 5 .geq 4 1,oI 6 5,oG 6 (oF 7 0 1),oG 6 (oL 8 1 7),oG 6 (oC 9 .leq 8 3),oP 10 6 9,oI 11 10,oG 11 (oM 12 3 1),oG 11 (oO 13 (.call zsw) [s_ 12]),oP 14 11 13,oI 2 14] .ret)
def znS:IFun:=⟨15,[.slot 2],zxp,6,0,za2⟩
theorem zjw:za8 Tryz.prog [1048577] 0 zxh=some znS:=by kernel_rfl
def zCG:ICode:=oR [oV 2 (.str ⟨#[]⟩)] (.seq (oR [oI 3 0] (oT 3 (oR [oV 2 (.str ⟨#[116,114,117,101]⟩)] .ret))) (oR [oV 2 (.str ⟨#[102,97,108,115,101]⟩)] .ret))
def ztR:IFun:=⟨4,[.slot 2],zCG,6,0,za2⟩
theorem zdz:za8 Tryz.prog [] 0 zxi=some ztR:=by kernel_rfl
def zCH:ICode:=oR [oV 4 .niliface] (oR [oI 5 0,oO 6 (.call zzM) [s_ 5]] (oR [oI 7 0,oI 8 0,oO 9 .nilchk [s_ 8],oF 10 1 9,oL 11 1 10,oI 12 1,oO 13 (.buildSl 1 1 (.int .u8 0) [0]) [s_ 12],oO 14 (.append 5 1 1) [s_ 11,s_ 13],oO 15 .nilchk [s_ 7],oF 16 1 15,oS 1 16 14] (oR [oV 4 .niliface] .ret)))
def ztS:IFun:=⟨17,[.slot 4],zCH,6,0,za2⟩
theorem zdj:za8 Tryz.prog [] 0 znE=some ztS:=by kernel_rfl
def zCI:ICode:=oR [oV 2 (.bool false)] (oR [oI 3 0,oO 4 (.call zkF) [s_ 3,.val (.str ⟨#[]⟩)],oO 5 (.bin .eql) [s_ 4,.val (.str ⟨#[]⟩)],oI 2 5] .ret)
def ztT:IFun:=⟨6,[.slot 2],zCI,6,0,za2⟩
theorem zkU:za8 Tryz.prog [2097231] 0 zkG=some ztT:=by kernel_rfl
def rows:List (Nat × List Nat × IFun):=[ (5,[1048580,2097174,2097178,2097179,2097177,2097180,2097181],zsJ), (10,[1048577],zsK), (12,[1048577,1048579,2097201],zgZ), (13,[1048579,1048581,1048583],zsN), (14,[3],zsO), (15,[3,1048582,8388613],zsP), (16,[15,1048581,1048583,33554432,8388645],zsS), (22,[2097183,2097178,2097182,2097192,2097180,2097229,2097230],zBY), (23,[1048580],zsT), (24,[1048581],zsV), (25,[],zsW), (26,[1048585,2097180,2097231,2097229,2097232,2097183,2097230],zs1), (27,[1048588,2097181,2097191,2097195,2097233,2097185,2097234],zs7), (28,[],zs8), (29,[1048581,2097190],zs9), (30,[2097229],zB6), (31,[],zta), (33,[1048581,1048582,2097193,2097238],ztc), (37,[1048579,1048583,2097240],zte), (38,[2097243],ztf), (39,[1048583,2097243,2097240],zth), (40,[1048579,2097230],zCc), (41,[1048579,2097234,2097243,2097190],znG), (43,[1048579,1048583,2097189],ztj), (47,[],ztk), (48,[],zqf), (49,[1048578,3145765,3145768,3145771],zjm), (50,[1048577,1048579],zkH), (51,[1048577],zzP), (52,[1048583],znI), (53,[16777223],znJ), (54,[1048578],ztl), (55,[1048578,1048579],zjU), (56,[1048580],ztn), (57,[1048578,1048579],zto), (58,[],zCj), (59,[1048580],zqh), (61,[1048581,1048582,2097229,2097262,2097263,2097264,33554432,16777303],zdX), (62,[],zCk), (63,[1048578,1048579],F_x22), (65,[1048577,1048579],zg1), (77,[1048578],ztp), (78,[1048577,1048578],ztq), (79,[],zxl), (80,[1048581,1048584,2097231],ztr), (81,[1048581,1048584,2097189],zts), (82,[1048577,1048578],ztt), (83,[],znK), (84,[1048581],ztv), (85,[],znL), (86,[1048578,1048579],zlW), (88,[1048579,2097190,2097193],zlX), (89,[1048579,1048583,1048586],ztz), (90,[1048578,1048579],znM), (91,[1048579],ztA), (94,[7,3145758,3145766],ztB), (95,[1048577],zic), (96,[1048578,1048579],zjX), (97,[1048577],zl0), (98,[1048577],zCu), (99,[1048577,1048578],zCv), (100,[],znN), (101,[1048577],zid), (102,[],F_x2), (103,[],F_x0), (106,[1048579,8388612],znO), (107,[],zCw), (108,[1048578,1048579],F_x73), (109,[1048578,1048579],F_x71), (110,[1048577,1048578],ztE), (111,[1048577,1048578,2097262,2097230,2097229],zqj), (112,[1048579,1048583,16777236,8388612],ztG), (115,[],F_x1), (116,[],ztH), (117,[],zl4), (118,[1048577,1048578,2097308],zkP), (128,[],ztJ), (129,[1048577,2097317,2097318],zhM), (130,[1048577],zhN), (131,[1048578,1048579],zjs), (132,[1048578,1048579],ztK), (135,[1048577],zeL), (136,[1048577],zwt), (137,[],F_x3), (140,[],zCB), (141,[1048578,1048579],F_x88), (142,[3145746,3145751,3145765,3145770],znR), (153,[],F_x4), (154,[],ztL), (155,[],zl7), (156,[],zxn), (157,[],zju), (162,[],ztN), (164,[],ztO), (165,[],zxo), (166,[3,2097280],ztP), (167,[],ztQ), (171,[1048577],zge), (172,[1048577],zBe), (173,[1048577],znS), (194,[],ztR), (196,[],ztS), (197,[2097231],ztT)]
def T:Nat→Option IFun:=zeg rows
theorem T_rows:RowsOk Tryz.prog rows:=.cons zdq (by decide) <| .cons zey (by decide) <| .cons zez (by decide) <| .cons zem (by decide) <| .cons znF (by decide) <| .cons zhJ (by decide) <| .cons zqe (by decide) <| .cons zeA (by decide) <| .cons zfK (by decide) <| .cons zfj (by decide) <| .cons zfk (by decide) <| .cons zf8 (by decide) <| .cons zeB (by decide) <| .cons zf9 (by decide) <| .cons zeC (by decide) <| .cons zhK (by decide) <| .cons zga (by decide) <| .cons zeD (by decide) <| .cons zen (by decide) <| .cons zfl (by decide) <| .cons zeo (by decide) <| .cons zfm (by decide) <| .cons zdW (by decide) <| .cons zeE (by decide) <| .cons zeF (by decide) <| .cons zfn (by decide) <| .cons zfo (by decide) <| .cons zeG (by decide) <| .cons zkI (by decide) <| .cons zbL (by decide) <| .cons zb6 (by decide) <| .cons zgb (by decide) <| .cons zjn (by decide) <| .cons za7 (by decide) <| .cons zkJ (by decide) <| .lib zbM (by decide) <| .cons zg0 (by decide) <| .cons zhL (by decide) <| .lib zb4 (by decide) <| .cons c_graph_order (by decide) <| .cons zkL (by decide) <| .cons zlU (by decide) <| .cons zlV (by decide) <| .lib zF4 (by decide) <| .cons zg2 (by decide) <| .cons zfp (by decide) <| .cons zfq (by decide) <| .cons zdr (by decide) <| .cons zeH (by decide) <| .cons zcP (by decide) <| .cons zfr (by decide) <| .cons zfs (by decide) <| .cons zft (by decide) <| .cons zdY (by decide) <| .cons zfL (by decide) <| .cons zeI (by decide) <| .cons zep (by decide) <| .cons zkM (by decide) <| .cons zjp (by decide) <| .cons zjq (by decide) <| .cons zqi (by decide) <| .cons zbU (by decide) <| .cons zl1 (by decide) <| .cons c_cmp_Orint (by decide) <| .cons c_cmp_Compareint (by decide) <| .cons zeJ (by decide) <| .lib zbN (by decide) <| .cons c_store_Store_All_1 (by decide) <| .cons c_store_Order (by decide) <| .cons zl2 (by decide) <| .cons zkN (by decide) <| .cons zfu (by decide) <| .cons c_cmp_Comparestring (by decide) <| .cons zkO (by decide) <| .cons zl5 (by decide) <| .cons zl6 (by decide) <| .lib zF7 (by decide) <| .cons zjr (by decide) <| .cons zfv (by decide) <| .cons zfw (by decide) <| .cons zeK (by decide) <| .cons zfx (by decide) <| .cons znQ (by decide) <| .cons c_cmp_isNaNint (by decide) <| .lib zbW (by decide) <| .cons c_value_Compare (by decide) <| .cons zcp (by decide) <| .cons c_cmp_isNaNstring (by decide) <| .cons zjt (by decide) <| .cons zkS (by decide) <| .lib zF5 (by decide) <| .cons zkT (by decide) <| .lib zF8 (by decide) <| .cons zfy (by decide) <| .lib zF6 (by decide) <| .cons zjv (by decide) <| .cons zeq (by decide) <| .cons zl8 (by decide) <| .cons zl9 (by decide) <| .cons zjw (by decide) <| .cons zdz (by decide) <| .cons zdj (by decide) <| .cons zkU (by decide) <| .nil
theorem T_ok:zcF Tryz.prog T:=zho (by kernel_rfl) T_rows.all
theorem zCJ:T zlR=some zsJ:=by kernel_rfl
theorem zEW:T zwV=some zsK:=by kernel_rfl
theorem zEX:T zsk=some zgZ:=by kernel_rfl
theorem zEY:T zsl=some zsN:=by kernel_rfl
theorem zEZ:T zp2=some zsO:=by kernel_rfl
theorem zE0:T zia=some zsP:=by kernel_rfl
theorem zE1:T zny=some zsS:=by kernel_rfl
theorem zE2:T zsm=some zsT:=by kernel_rfl
theorem zE3:T zsn=some zsV:=by kernel_rfl
theorem zE4:T zso=some zsW:=by kernel_rfl
theorem zE5:T zp3=some zs1:=by kernel_rfl
theorem zE6:T zsp=some zs7:=by kernel_rfl
theorem zE7:T zp4=some zs8:=by kernel_rfl
theorem zE8:T zp5=some zs9:=by kernel_rfl
theorem zE9:T zsq=some zta:=by kernel_rfl
theorem zFa:T zsr=some ztc:=by kernel_rfl
theorem zFb:T zp6=some zte:=by kernel_rfl
theorem zFc:T znz=some ztf:=by kernel_rfl
theorem zFd:T zss=some zth:=by kernel_rfl
theorem zFe:T zst=some znG:=by kernel_rfl
theorem zFf:T zp7=some ztj:=by kernel_rfl
theorem zFg:T zwX=some ztk:=by kernel_rfl
theorem zFh:T zhI=some zqf:=by kernel_rfl
theorem zFi:T zsu=some zjm:=by kernel_rfl
theorem zFj:T zwY=some zkH:=by kernel_rfl
theorem zGT:T zEh=some zzP:=by kernel_rfl
theorem zCK:T znA=some znI:=by kernel_rfl
theorem zFk:T zjj=some znJ:=by kernel_rfl
theorem zFl:T zwZ=some ztl:=by kernel_rfl
theorem zCL:T zo7=some zjU:=by kernel_rfl
theorem zFm:T znB=some ztn:=by kernel_rfl
theorem zFn:T zzJ=some zto:=by kernel_rfl
theorem zFo:T zw0=some zCj:=by kernel_rfl
theorem zFp:T zsv=some zqh:=by kernel_rfl
theorem zma:T zfi=some zdX:=by kernel_rfl
theorem zCM:T zw1=some zCk:=by kernel_rfl
theorem T_x22:T f_x22=some F_x22:=by kernel_rfl
theorem zFq:T zsw=some zg1:=by kernel_rfl
theorem zFr:T zjk=some ztp:=by kernel_rfl
theorem zFs:T znC=some ztq:=by kernel_rfl
theorem zFt:T zkF=some zxl:=by kernel_rfl
theorem zFu:T zsx=some ztr:=by kernel_rfl
theorem zFv:T zsy=some zts:=by kernel_rfl
theorem zFw:T zsz=some ztt:=by kernel_rfl
theorem zCN:T zw2=some znK:=by kernel_rfl
theorem zFx:T zlS=some ztv:=by kernel_rfl
theorem zCO:T zw3=some znL:=by kernel_rfl
theorem zFy:T zw4=some zlW:=by kernel_rfl
theorem zFz:T zsA=some zlX:=by kernel_rfl
theorem zFA:T zp8=some ztz:=by kernel_rfl
theorem zFB:T zsB=some znM:=by kernel_rfl
theorem zFC:T zp9=some ztA:=by kernel_rfl
theorem zFD:T zsC=some ztB:=by kernel_rfl
theorem zFE:T zw5=some zic:=by kernel_rfl
theorem zCP:T zo8=some zjX:=by kernel_rfl
theorem zCQ:T zo9=some zl0:=by kernel_rfl
theorem zGU:T zEi=some zCu:=by kernel_rfl
theorem zGV:T zEj=some zCv:=by kernel_rfl
theorem zCR:T zqa=some znN:=by kernel_rfl
theorem zCS:T zlT=some zid:=by kernel_rfl
theorem T_x2:T f_x2=some F_x2:=by kernel_rfl
theorem T_x0:T f_x0=some F_x0:=by kernel_rfl
theorem zCT:T zqb=some znO:=by kernel_rfl
theorem zCU:T zw6=some zCw:=by kernel_rfl
theorem T_x73:T f_x73=some F_x73:=by kernel_rfl
theorem T_x71:T f_x71=some F_x71:=by kernel_rfl
theorem zFF:T zsD=some ztE:=by kernel_rfl
theorem zFG:T zw7=some zqj:=by kernel_rfl
theorem zFH:T zsE=some ztG:=by kernel_rfl
theorem T_x1:T f_x1=some F_x1:=by kernel_rfl
theorem zFI:T zw8=some ztH:=by kernel_rfl
theorem zFJ:T zqc=some zl4:=by kernel_rfl
theorem zFK:T zsF=some zkP:=by kernel_rfl
theorem zFL:T zzK=some ztJ:=by kernel_rfl
theorem zFM:T zsG=some zhM:=by kernel_rfl
theorem zFN:T zsH=some zhN:=by kernel_rfl
theorem zFO:T zw9=some zjs:=by kernel_rfl
theorem zFP:T zxa=some ztK:=by kernel_rfl
theorem zFQ:T zxb=some zeL:=by kernel_rfl
theorem zGW:T zEk=some zwt:=by kernel_rfl
theorem T_x3:T f_x3=some F_x3:=by kernel_rfl
theorem zCV:T zxc=some zCB:=by kernel_rfl
theorem T_x88:T f_x88=some F_x88:=by kernel_rfl
theorem zCW:T zqd=some znR:=by kernel_rfl
theorem T_x4:T f_x4=some F_x4:=by kernel_rfl
theorem zFR:T zsI=some ztL:=by kernel_rfl
theorem zFS:T zxd=some zl7:=by kernel_rfl
theorem zFT:T zzL=some zxn:=by kernel_rfl
theorem zCX:T zgY=some zju:=by kernel_rfl
theorem zFU:T zzM=some ztN:=by kernel_rfl
theorem zFV:T zxe=some ztO:=by kernel_rfl
theorem zFW:T zzN=some zxo:=by kernel_rfl
theorem zFX:T zxf=some ztP:=by kernel_rfl
theorem zFY:T znD=some ztQ:=by kernel_rfl
theorem zFZ:T zxg=some zge:=by kernel_rfl
theorem zGX:T zBd=some zBe:=by kernel_rfl
theorem zF0:T zxh=some znS:=by kernel_rfl
theorem zF1:T zxi=some ztR:=by kernel_rfl
theorem zF2:T znE=some ztS:=by kernel_rfl
theorem zF3:T zkG=some ztT:=by kernel_rfl
end Go.Proofs.YtchjbidfmhmmhaaGreatDoor
