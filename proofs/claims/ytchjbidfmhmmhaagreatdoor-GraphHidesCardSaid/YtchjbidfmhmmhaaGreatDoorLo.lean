/- Own work: the zaG machine and what it shows, part Lo. -/
import Derived.Test.YtchjbidfmhmmhaaGreatDoorChecked
import Derived.Test.YtchjbidfmhmmhaaGreatDoorShT
import Derived.Test.YtchjbidfmhmmhaaGreatDoorShH
import Derived.Test.YtchjbidfmhmmhaaGreatDoorVp
import Derived.Test.YtchjbidfmhmmhaaGreatDoorShF
set_option linter.all false
namespace Go.Sh
@[simp] abbrev oO (d:Nat) (p:Prim) (a:List Src):IOp:=⟨some d,none,p,a,none⟩
@[simp] abbrev oI (d s:Nat):IOp:=⟨some d,none,.id,[.slot s],none⟩
@[simp] abbrev oV (d:Nat) (v:GV):IOp:=⟨some d,none,.id,[.val v],none⟩
@[simp] abbrev oF (d n s:Nat):IOp:=⟨some d,none,.faddr n,[.slot s],none⟩
@[simp] abbrev oL (d n s:Nat):IOp:=⟨some d,none,.load n false,[.slot s],none⟩
@[simp] abbrev oM (d n s:Nat):IOp:=⟨some d,none,.load n true,[.slot s],none⟩
@[simp] abbrev oP (d a b:Nat):IOp:=⟨some d,none,.pick,[.slot a,.slot b,.val (.bool false)],none⟩
@[simp] abbrev oQ (d a b:Nat):IOp:=⟨some d,none,.pick,[.slot a,.val (.bool true),.slot b],none⟩
@[simp] abbrev oB (d:Nat) (k:BinOp) (a b:Nat):IOp:=⟨some d,none,.bin k,[.slot a,.slot b],none⟩
@[simp] abbrev oC (d:Nat) (k:BinOp) (a:Nat) (b:Int):IOp:=⟨some d,none,.bin k,[.slot a,.val (.int .i64 b)],none⟩
@[simp] abbrev oX (d n a b:Nat):IOp:=⟨some d,none,.ixaddr n,[.slot a,.slot b],none⟩
@[simp] abbrev oS (n a b:Nat):IOp:=⟨none,none,.store n,[.slot a,.slot b],none⟩
@[simp] abbrev oG (g:Nat) (o:IOp):IOp:=⟨o.dst,some (g,true),o.prim,o.args,o.ak⟩
@[simp] abbrev oH (g:Nat) (o:IOp):IOp:=⟨o.dst,some (g,false),o.prim,o.args,o.ak⟩
@[simp] abbrev oK (k:Nat) (o:IOp):IOp:=⟨o.dst,o.guard,o.prim,o.args,some (.loc k)⟩
@[simp] abbrev oR (l:List IOp) (c:ICode):ICode:=.seq (.region l) c
@[simp] abbrev oE (s n:Nat):ICode:=.cond (.slot s) .skip (.exit n)
@[simp] abbrev oT (s:Nat) (a:ICode):ICode:=.cond (.slot s) a .skip
@[simp] abbrev s_ (s:Nat):Src:=.slot s
@[simp] abbrev n_ (n:Int):GV:=.int .i64 n
end Go.Sh
namespace Go.Proofs.YtchjbidfmhmmhaaGreatDoor.Low
open Go.Sh
set_option maxRecDepth 100000
abbrev lowFacts:Facts:=⟨fun _=>True,True⟩
abbrev f_x23:Nat:=63
abbrev f_x2:Nat:=102
abbrev f_x0:Nat:=103
abbrev f_x54:Nat:=108
abbrev f_x52:Nat:=109
abbrev f_x1:Nat:=115
abbrev f_x3:Nat:=137
abbrev f_x69:Nat:=141
abbrev f_x4:Nat:=153
def b_x23:ICode :=
 .seq
 (.region [
 ⟨some 2,none,.boxL,[.slot 0],none⟩,
 ⟨some 3,none,.boxL,[.slot 1],none⟩,
 ⟨some 4,none,.id,[.val (.int .i64 0)],none⟩])
 (.seq
 (.region [
 ⟨some 5,none,.faddr 0,[.slot 2],none⟩,
 ⟨some 6,none,.load 1 false,[.slot 5],(some (.loc 2))⟩,
 ⟨some 7,none,.faddr 0,[.slot 3],none⟩,
 ⟨some 8,none,.load 1 false,[.slot 7],(some (.loc 3))⟩,
 ⟨some 9,none,.call f_x1,[.slot 6,.slot 8],none⟩,
 ⟨some 10,none,.faddr 2,[.slot 2],none⟩,
 ⟨some 11,none,.load 1 false,[.slot 10],(some (.loc 2))⟩,
 ⟨some 12,none,.faddr 2,[.slot 3],none⟩,
 ⟨some 13,none,.load 1 false,[.slot 12],(some (.loc 3))⟩,
 ⟨some 14,none,.call f_x1,[.slot 11,.slot 13],none⟩,
 ⟨some 15,none,.faddr 1,[.slot 2],none⟩,
 ⟨some 16,none,.load 1 false,[.slot 15],(some (.loc 2))⟩,
 ⟨some 17,none,.faddr 1,[.slot 3],none⟩,
 ⟨some 18,none,.load 1 false,[.slot 17],(some (.loc 3))⟩,
 ⟨some 19,none,.call f_x1,[.slot 16,.slot 18],none⟩,
 ⟨some 20,none,.buildSl 1 3 (.int .i64 0) [0,1,2],[.slot 9,.slot 14,.slot 19],none⟩,
 ⟨some 21,none,.call f_x2,[.slot 20],none⟩,
 ⟨some 4,none,.id,[.slot 21],none⟩])
 (.ret))
def F_x23:IFun:=⟨22,[.slot 4],b_x23,6,0,zbd⟩
theorem c_graph_order:zbi Tryz.prog [1048578,1048579] 0 f_x23=some F_x23:=by kernel_rfl
def L0_x2:ICode :=
 .seq
 (.region [
 ⟨some 9,none,.bin .lss,[.slot 8,.slot 7],none⟩])
 (.seq
 (.cond (.slot 9)
 (.skip)
 (.exit 0))
 (.seq
 (.block 1
 (.seq
 (.region [
 ⟨some 10,none,.ixaddr 1,[.slot 6,.slot 8],none⟩,
 ⟨some 11,none,.load 1 false,[.slot 10],none⟩,
 ⟨some 5,none,.id,[.slot 11],none⟩])
 (.seq
 (.region [
 ⟨some 12,none,.id,[.slot 5],none⟩,
 ⟨some 13,none,.id,[.slot 3],none⟩,
 ⟨some 14,none,.bin .neq,[.slot 12,.slot 13],none⟩])
 (.cond (.slot 14)
 (.seq
 (.region [
 ⟨some 15,none,.id,[.slot 5],none⟩,
 ⟨some 2,none,.id,[.slot 15],none⟩])
 (.ret))
 (.skip)))))
 (.region [
 ⟨some 16,none,.bin .add,[.slot 8,.val (.int .i64 1)],none⟩,
 ⟨some 8,none,.id,[.slot 16],none⟩])))
def b_x2:ICode :=
 .seq
 (.region [
 ⟨some 2,none,.id,[.val (.int .i64 0)],none⟩])
 (.seq
 (.region [
 ⟨some 3,none,.id,[.val (.int .i64 0)],none⟩])
 (.seq
 (.seq
 (.region [
 ⟨some 6,none,.id,[.slot 0],none⟩,
 ⟨some 7,none,.lensl,[.slot 6],none⟩,
 ⟨some 8,none,.id,[.val (.int .i64 0)],none⟩])
 (.block 0
 (.loop L0_x2)))
 (.seq
 (.region [
 ⟨some 17,none,.id,[.slot 3],none⟩,
 ⟨some 2,none,.id,[.slot 17],none⟩])
 (.ret))))
def F_x2:IFun:=⟨18,[.slot 2],b_x2,6,0,zbd⟩
theorem c_cmp_Orint:zbi Tryz.prog [] 0 f_x2=some F_x2:=by kernel_rfl
def b_x0:ICode :=
 .seq
 (.region [
 ⟨some 4,none,.id,[.val (.int .i64 0)],none⟩])
 (.seq
 (.region [
 ⟨some 7,none,.id,[.slot 0],none⟩,
 ⟨some 8,none,.call f_x3,[.slot 7],none⟩,
 ⟨some 5,none,.id,[.slot 8],none⟩])
 (.seq
 (.region [
 ⟨some 9,none,.id,[.slot 1],none⟩,
 ⟨some 10,none,.call f_x3,[.slot 9],none⟩,
 ⟨some 6,none,.id,[.slot 10],none⟩])
 (.seq
 (.seq
 (.region [
 ⟨some 11,none,.id,[.slot 5],none⟩])
 (.cond (.slot 11)
 (.seq
 (.seq
 (.region [
 ⟨some 12,none,.id,[.slot 6],none⟩])
 (.cond (.slot 12)
 (.seq
 (.region [
 ⟨some 4,none,.id,[.val (.int .i64 0)],none⟩])
 (.ret))
 (.skip)))
 (.seq
 (.region [
 ⟨some 4,none,.id,[.val (.int .i64 (-1))],none⟩])
 (.ret)))
 (.skip)))
 (.seq
 (.seq
 (.region [
 ⟨some 13,none,.id,[.slot 6],none⟩])
 (.cond (.slot 13)
 (.seq
 (.region [
 ⟨some 4,none,.id,[.val (.int .i64 1)],none⟩])
 (.ret))
 (.skip)))
 (.seq
 (.seq
 (.region [
 ⟨some 14,none,.id,[.slot 0],none⟩,
 ⟨some 15,none,.id,[.slot 1],none⟩,
 ⟨some 16,none,.bin .lss,[.slot 14,.slot 15],none⟩])
 (.cond (.slot 16)
 (.seq
 (.region [
 ⟨some 4,none,.id,[.val (.int .i64 (-1))],none⟩])
 (.ret))
 (.skip)))
 (.seq
 (.seq
 (.region [
 ⟨some 17,none,.id,[.slot 0],none⟩,
 ⟨some 18,none,.id,[.slot 1],none⟩,
 ⟨some 19,none,.bin .gtr,[.slot 17,.slot 18],none⟩])
 (.cond (.slot 19)
 (.seq
 (.region [
 ⟨some 4,none,.id,[.val (.int .i64 1)],none⟩])
 (.ret))
 (.skip)))
 (.seq
 (.region [
 ⟨some 4,none,.id,[.val (.int .i64 0)],none⟩])
 (.ret))))))))
def F_x0:IFun:=⟨20,[.slot 4],b_x0,6,0,zbd⟩
theorem c_cmp_Compareint:zbi Tryz.prog [] 0 f_x0=some F_x0:=by kernel_rfl
def b_x54:ICode :=
 .seq
 (.region [
 ⟨some 2,none,.boxL,[.slot 0],none⟩,
 ⟨some 3,none,.boxL,[.slot 1],none⟩,
 ⟨some 4,none,.id,[.val (.int .i64 0)],none⟩])
 (.seq
 (.region [
 ⟨some 5,none,.faddr 0,[.slot 2],none⟩,
 ⟨some 6,none,.load 5 true,[.slot 5],none⟩,
 ⟨some 7,none,.faddr 0,[.slot 3],none⟩,
 ⟨some 8,none,.load 5 true,[.slot 7],none⟩,
 ⟨some 9,none,.call f_x52,[.slot 6,.slot 8],none⟩,
 ⟨some 4,none,.id,[.slot 9],none⟩])
 (.ret))
def F_x54:IFun:=⟨10,[.slot 4],b_x54,6,0,zbd⟩
theorem c_store_Store_All_1:zbi Tryz.prog [1048578,1048579] 0 f_x54=some F_x54:=by kernel_rfl
def b_x52:ICode :=
 .seq
 (.region [
 ⟨some 2,none,.boxL,[.slot 0],none⟩,
 ⟨some 3,none,.boxL,[.slot 1],none⟩,
 ⟨some 4,none,.id,[.val (.int .i64 0)],none⟩])
 (.seq
 (.region [
 ⟨some 5,none,.faddr 0,[.slot 2],none⟩,
 ⟨some 6,none,.load 1 false,[.slot 5],(some (.loc 2))⟩,
 ⟨some 7,none,.faddr 0,[.slot 3],none⟩,
 ⟨some 8,none,.load 1 false,[.slot 7],(some (.loc 3))⟩,
 ⟨some 9,none,.call f_x0,[.slot 6,.slot 8],none⟩,
 ⟨some 10,none,.faddr 1,[.slot 2],none⟩,
 ⟨some 11,none,.load 1 false,[.slot 10],(some (.loc 2))⟩,
 ⟨some 12,none,.faddr 1,[.slot 3],none⟩,
 ⟨some 13,none,.load 1 false,[.slot 12],(some (.loc 3))⟩,
 ⟨some 14,none,.call f_x1,[.slot 11,.slot 13],none⟩,
 ⟨some 15,none,.faddr 2,[.slot 2],none⟩,
 ⟨some 16,none,.load 1 false,[.slot 15],(some (.loc 2))⟩,
 ⟨some 17,none,.faddr 2,[.slot 3],none⟩,
 ⟨some 18,none,.load 1 false,[.slot 17],(some (.loc 3))⟩,
 ⟨some 19,none,.call f_x1,[.slot 16,.slot 18],none⟩,
 ⟨some 20,none,.faddr 3,[.slot 2],none⟩,
 ⟨some 21,none,.load 1 false,[.slot 20],(some (.loc 2))⟩,
 ⟨some 22,none,.faddr 3,[.slot 3],none⟩,
 ⟨some 23,none,.load 1 false,[.slot 22],(some (.loc 3))⟩,
 ⟨some 24,none,.call f_x1,[.slot 21,.slot 23],none⟩,
 ⟨some 25,none,.faddr 4,[.slot 2],none⟩,
 ⟨some 26,none,.load 1 false,[.slot 25],(some (.loc 2))⟩,
 ⟨some 27,none,.faddr 4,[.slot 3],none⟩,
 ⟨some 28,none,.load 1 false,[.slot 27],(some (.loc 3))⟩,
 ⟨some 29,none,.call f_x1,[.slot 26,.slot 28],none⟩,
 ⟨some 30,none,.buildSl 1 5 (.int .i64 0) [0,1,2,3,4],[.slot 9,.slot 14,.slot 19,.slot 24,.slot 29],none⟩,
 ⟨some 31,none,.call f_x2,[.slot 30],none⟩,
 ⟨some 4,none,.id,[.slot 31],none⟩])
 (.ret))
def F_x52:IFun:=⟨32,[.slot 4],b_x52,6,0,zbd⟩
theorem c_store_Order:zbi Tryz.prog [1048578,1048579] 0 f_x52=some F_x52:=by kernel_rfl
def b_x1:ICode :=
 .seq
 (.region [
 ⟨some 4,none,.id,[.val (.int .i64 0)],none⟩])
 (.seq
 (.region [
 ⟨some 7,none,.id,[.slot 0],none⟩,
 ⟨some 8,none,.call f_x4,[.slot 7],none⟩,
 ⟨some 5,none,.id,[.slot 8],none⟩])
 (.seq
 (.region [
 ⟨some 9,none,.id,[.slot 1],none⟩,
 ⟨some 10,none,.call f_x4,[.slot 9],none⟩,
 ⟨some 6,none,.id,[.slot 10],none⟩])
 (.seq
 (.seq
 (.region [
 ⟨some 11,none,.id,[.slot 5],none⟩])
 (.cond (.slot 11)
 (.seq
 (.seq
 (.region [
 ⟨some 12,none,.id,[.slot 6],none⟩])
 (.cond (.slot 12)
 (.seq
 (.region [
 ⟨some 4,none,.id,[.val (.int .i64 0)],none⟩])
 (.ret))
 (.skip)))
 (.seq
 (.region [
 ⟨some 4,none,.id,[.val (.int .i64 (-1))],none⟩])
 (.ret)))
 (.skip)))
 (.seq
 (.seq
 (.region [
 ⟨some 13,none,.id,[.slot 6],none⟩])
 (.cond (.slot 13)
 (.seq
 (.region [
 ⟨some 4,none,.id,[.val (.int .i64 1)],none⟩])
 (.ret))
 (.skip)))
 (.seq
 (.seq
 (.region [
 ⟨some 14,none,.id,[.slot 0],none⟩,
 ⟨some 15,none,.id,[.slot 1],none⟩,
 ⟨some 16,none,.bin .lss,[.slot 14,.slot 15],none⟩])
 (.cond (.slot 16)
 (.seq
 (.region [
 ⟨some 4,none,.id,[.val (.int .i64 (-1))],none⟩])
 (.ret))
 (.skip)))
 (.seq
 (.seq
 (.region [
 ⟨some 17,none,.id,[.slot 0],none⟩,
 ⟨some 18,none,.id,[.slot 1],none⟩,
 ⟨some 19,none,.bin .gtr,[.slot 17,.slot 18],none⟩])
 (.cond (.slot 19)
 (.seq
 (.region [
 ⟨some 4,none,.id,[.val (.int .i64 1)],none⟩])
 (.ret))
 (.skip)))
 (.seq
 (.region [
 ⟨some 4,none,.id,[.val (.int .i64 0)],none⟩])
 (.ret))))))))
def F_x1:IFun:=⟨20,[.slot 4],b_x1,6,0,zbd⟩
theorem c_cmp_Comparestring:zbi Tryz.prog [] 0 f_x1=some F_x1:=by kernel_rfl
def b_x3:ICode :=
 .seq
 (.region [
 ⟨some 2,none,.id,[.val (.bool false)],none⟩])
 (.seq
 (.region [
 ⟨some 3,none,.id,[.slot 0],none⟩,
 ⟨some 4,none,.id,[.slot 0],none⟩,
 ⟨some 5,none,.bin .neq,[.slot 3,.slot 4],none⟩,
 ⟨some 2,none,.id,[.slot 5],none⟩])
 (.ret))
def F_x3:IFun:=⟨6,[.slot 2],b_x3,6,0,zbd⟩
theorem c_cmp_isNaNint:zbi Tryz.prog [] 0 f_x3=some F_x3:=by kernel_rfl
def b_x69:ICode :=
 .seq
 (.region [
 ⟨some 2,none,.boxL,[.slot 0],none⟩,
 ⟨some 3,none,.boxL,[.slot 1],none⟩,
 ⟨some 4,none,.id,[.val (.int .i64 0)],none⟩])
 (.seq
 (.region [
 ⟨some 5,none,.faddr 0,[.slot 2],none⟩,
 ⟨some 6,none,.load 1 false,[.slot 5],(some (.loc 2))⟩,
 ⟨some 7,none,.faddr 0,[.slot 3],none⟩,
 ⟨some 8,none,.load 1 false,[.slot 7],(some (.loc 3))⟩,
 ⟨some 9,none,.call f_x0,[.slot 6,.slot 8],none⟩,
 ⟨some 10,none,.faddr 1,[.slot 2],none⟩,
 ⟨some 11,none,.load 1 false,[.slot 10],(some (.loc 2))⟩,
 ⟨some 12,none,.faddr 1,[.slot 3],none⟩,
 ⟨some 13,none,.load 1 false,[.slot 12],(some (.loc 3))⟩,
 ⟨some 14,none,.call f_x0,[.slot 11,.slot 13],none⟩,
 ⟨some 15,none,.faddr 2,[.slot 2],none⟩,
 ⟨some 16,none,.load 1 false,[.slot 15],(some (.loc 2))⟩,
 ⟨some 17,none,.faddr 2,[.slot 3],none⟩,
 ⟨some 18,none,.load 1 false,[.slot 17],(some (.loc 3))⟩,
 ⟨some 19,none,.call f_x1,[.slot 16,.slot 18],none⟩,
 ⟨some 20,none,.buildSl 1 3 (.int .i64 0) [0,1,2],[.slot 9,.slot 14,.slot 19],none⟩,
 ⟨some 21,none,.call f_x2,[.slot 20],none⟩,
 ⟨some 4,none,.id,[.slot 21],none⟩])
 (.ret))
def F_x69:IFun:=⟨22,[.slot 4],b_x69,6,0,zbd⟩
theorem c_value_Compare:zbi Tryz.prog [1048578,1048579] 0 f_x69=some F_x69:=by kernel_rfl
def b_x4:ICode :=
 .seq
 (.region [
 ⟨some 2,none,.id,[.val (.bool false)],none⟩])
 (.seq
 (.region [
 ⟨some 3,none,.id,[.slot 0],none⟩,
 ⟨some 4,none,.id,[.slot 0],none⟩,
 ⟨some 5,none,.bin .neq,[.slot 3,.slot 4],none⟩,
 ⟨some 2,none,.id,[.slot 5],none⟩])
 (.ret))
def F_x4:IFun:=⟨6,[.slot 2],b_x4,6,0,zbd⟩
theorem c_cmp_isNaNstring:zbi Tryz.prog [] 0 f_x4=some F_x4:=by kernel_rfl
def rows:List (Nat × List Nat × IFun):=[
 (63,[1048578,1048579],F_x23),
 (102,[],F_x2),
 (103,[],F_x0),
 (108,[1048578,1048579],F_x54),
 (109,[1048578,1048579],F_x52),
 (115,[],F_x1),
 (137,[],F_x3),
 (141,[1048578,1048579],F_x69),
 (153,[],F_x4)]
def T:Nat→Option IFun:=zdQ rows
theorem T_rows : @RowsOk lowFacts Tryz.prog rows :=
 @RowsOk.cons lowFacts _ _ _ _ _ c_graph_order (by decide) <|
 @RowsOk.cons lowFacts _ _ _ _ _ c_cmp_Orint (by decide) <|
 @RowsOk.cons lowFacts _ _ _ _ _ c_cmp_Compareint (by decide) <|
 @RowsOk.cons lowFacts _ _ _ _ _ c_store_Store_All_1 (by decide) <|
 @RowsOk.cons lowFacts _ _ _ _ _ c_store_Order (by decide) <|
 @RowsOk.cons lowFacts _ _ _ _ _ c_cmp_Comparestring (by decide) <|
 @RowsOk.cons lowFacts _ _ _ _ _ c_cmp_isNaNint (by decide) <|
 @RowsOk.cons lowFacts _ _ _ _ _ c_value_Compare (by decide) <|
 @RowsOk.cons lowFacts _ _ _ _ _ c_cmp_isNaNstring (by decide) <|
 @RowsOk.nil lowFacts _
theorem T_ok : @zcq lowFacts Tryz.prog T:=@zgG lowFacts _ _ (by kernel_rfl) (@RowsOk.all lowFacts _ _ T_rows)
theorem T_x23:T f_x23=some F_x23:=by kernel_rfl
theorem T_x2:T f_x2=some F_x2:=by kernel_rfl
theorem T_x0:T f_x0=some F_x0:=by kernel_rfl
theorem T_x54:T f_x54=some F_x54:=by kernel_rfl
theorem T_x52:T f_x52=some F_x52:=by kernel_rfl
theorem T_x1:T f_x1=some F_x1:=by kernel_rfl
theorem T_x3:T f_x3=some F_x3:=by kernel_rfl
theorem T_x69:T f_x69=some F_x69:=by kernel_rfl
theorem T_x4:T f_x4=some F_x4:=by kernel_rfl
theorem isNaN_int (a:Int) (H:GH):ecall T f_x3 [.int .i64 a] H=some (.bool false,H):=by
 apply optW.eq
 rw [zad T_x3 rfl (by simp [F_x3]),zab]
 simp [F_x3,b_x3]
theorem isNaN_str (a:ByteArray) (H:GH):ecall T f_x4 [.str a] H=some (.bool false,H):=by
 apply optW.eq
 rw [zad T_x4 rfl (by simp [F_x4]),zab]
 simp [F_x4,b_x4]
theorem cmp_int (a b:Int) (H:GH):ecall T f_x0 [.int .i64 a,.int .i64 b] H=some (.int .i64 (zin a b),H):=by
 apply optW.eq
 rw [zad T_x0 rfl (by simp [F_x0]),zab]
 by_cases h:a<b
 ·simp [F_x0,b_x0,isNaN_int,zin,h]
 ·by_cases h':b<a <;> simp [F_x0,b_x0,isNaN_int,zin,h,h']
theorem cmp_str (a b:ByteArray) (H:GH):ecall T f_x1 [.str a,.str b] H=some (.int .i64 (zzr a b),H):=by
 apply optW.eq
 rw [zad T_x1 rfl (by simp [F_x1]),zab]
 unfold zzr
 cases h:Op.bytesLess a.toList b.toList
 ·by_cases h':a.toList=b.toList
  ·have h2:=h
   rw [h'] at h2
   simp [F_x1,b_x1,isNaN_str,h2,h',zg7]
  ·have h3:(a.toList == b.toList)=false:=beq_eq_false_iff_ne.2 h'
   simp [F_x1,b_x1,isNaN_str,h,h',h3,zg7]
 ·simp [F_x1,b_x1,isNaN_str,h,zg7]
theorem cmp_lex (a b:List UInt8) (H:GH):ecall T f_x1 [.str (mkB a),.str (mkB b)] H=some (.int .i64 (zc5 a b),H):=by
 have:=cmp_str (mkB a) (mkB b) H
 rwa [zon,zbE,zbE] at this
theorem cmp_or2 (x y:Int) (H:GH):ecall T f_x2 [.sl 1 [.int .i64 x,.int .i64 y] .exact] H=some (.int .i64 (orL [x,y]),H):=by
 apply optW.eq
 rw [zad T_x2 rfl (by simp [F_x2]),zab]
 have w1:IntKind.i64.wrap 1=1:=by decide
 have w2:IntKind.i64.wrap 2=2:=by decide
 by_cases hx:x=0
 ·by_cases hy:y=0 <;> simp [F_x2,b_x2,hx,hy,zal,L0_x2,gIx,w1,w2,orL]
 ·simp [F_x2,b_x2,hx,zal,L0_x2,gIx,w1,w2,orL]
theorem zsj (x y z:Int) (H:GH):ecall T f_x2 [.sl 1 [.int .i64 x,.int .i64 y,.int .i64 z] .exact] H=some (.int .i64 (orL [x,y,z]),H):=by
 apply optW.eq
 rw [zad T_x2 rfl (by simp [F_x2]),zab]
 have w1:IntKind.i64.wrap 1=1:=by decide
 have w2:IntKind.i64.wrap 2=2:=by decide
 have w3:IntKind.i64.wrap 3=3:=by decide
 by_cases hx:x=0
 ·by_cases hy:y=0
  ·by_cases hz:z=0 <;> simp [F_x2,b_x2,hx,hy,hz,zal,L0_x2,gIx,w1,w2,w3,orL]
  ·simp [F_x2,b_x2,hx,hy,zal,L0_x2,gIx,w1,w2,w3,orL]
 ·simp [F_x2,b_x2,hx,zal,L0_x2,gIx,w1,w2,w3,orL]
theorem cmp_or5 (x y z u v:Int) (H:GH):ecall T f_x2 [.sl 1 [.int .i64 x,.int .i64 y,.int .i64 z,.int .i64 u,.int .i64 v] .exact] H=some (.int .i64 (orL [x,y,z,u,v]),H):=by
 apply optW.eq
 rw [zad T_x2 rfl (by simp [F_x2]),zab]
 have w1:IntKind.i64.wrap 1=1:=by decide
 have w2:IntKind.i64.wrap 2=2:=by decide
 have w3:IntKind.i64.wrap 3=3:=by decide
 have w4:IntKind.i64.wrap 4=4:=by decide
 have w5:IntKind.i64.wrap 5=5:=by decide
 by_cases hx:x=0
 ·by_cases hy:y=0
  ·by_cases hz:z=0
   ·by_cases hu:u=0
    ·by_cases hv:v=0 <;> simp [F_x2,b_x2,hx,hy,hz,hu,hv,zal,L0_x2,gIx,w1,w2,w3,w4,w5,orL]
    ·simp [F_x2,b_x2,hx,hy,hz,hu,zal,L0_x2,gIx,w1,w2,w3,w4,w5,orL]
   ·simp [F_x2,b_x2,hx,hy,hz,zal,L0_x2,gIx,w1,w2,w3,w4,w5,orL]
  ·simp [F_x2,b_x2,hx,hy,zal,L0_x2,gIx,w1,w2,w3,w4,w5,orL]
 ·simp [F_x2,b_x2,hx,zal,L0_x2,gIx,w1,w2,w3,w4,w5,orL]
theorem store_Order (x y:El) (H:GH):ecall T f_x52 [.agg (elC x),.agg (elC y)] H=some (.int .i64 (zdu x y),H):=by
 apply optW.eq
 rw [zad T_x52 rfl (by simp [F_x52]),zab]
 simp [F_x52,b_x52,elC,cmp_int,cmp_lex,zaj,cmp_or5,zdu]
theorem store_All_1 (x y:El) (v w:GV) (hv:v.one=true) (hw:w.one=true) (hv':v.ok=true) (hw':w.ok=true) (H:GH):ecall T f_x54 [.agg (elC x++[v]),.agg (elC y++[w])] H=some (.int .i64 (zdu x y),H):=by
 have h:=fun H=>store_Order x y H
 simp only [elC] at h
 apply optW.eq
 rw [zad T_x54 rfl (by simp [F_x54]),zab]
 simp [F_x54,b_x54,elC,h,hv,hw,hv',hw']
theorem value_Compare (x y:Vl) (H:GH):ecall T f_x69 [.agg (vlC x),.agg (vlC y)] H=some (.int .i64 (zfm x y),H):=by
 apply optW.eq
 rw [zad T_x69 rfl (by simp [F_x69]),zab]
 simp [F_x69,b_x69,vlC,cmp_int,cmp_lex,zaj,zsj,zfm]
theorem graph_order (x y:Lk) (H:GH):ecall T f_x23 [.agg (lkC x),.agg (lkC y)] H=some (.int .i64 (zfq x y),H):=by
 apply optW.eq
 rw [zad T_x23 rfl (by simp [F_x23]),zab]
 simp [F_x23,b_x23,lkC,cmp_lex,zaj,zsj,zfq]
end Go.Proofs.YtchjbidfmhmmhaaGreatDoor.Low
