/- Own work: the shadow machine and what it shows, part Lo. -/
import Derived.Test.YthmplnbogdfajaaGreatDoorChecked
import Derived.Test.YthmplnbogdfajaaGreatDoorShT
import Derived.Test.YthmplnbogdfajaaGreatDoorShH
import Derived.Test.YthmplnbogdfajaaGreatDoorShF
set_option linter.all false
namespace Go.Proofs.YthmplnbogdfajaaGreatDoor.Low
open Go.Sh
set_option maxRecDepth 100000
abbrev lowFacts : Facts := ⟨fun _ => True, True⟩
abbrev f_x63 : Nat := 29
abbrev f_x65 : Nat := 41
abbrev f_x75 : Nat := 48
abbrev f_x2 : Nat := 67
abbrev f_x0 : Nat := 68
abbrev f_x1 : Nat := 69
abbrev f_x3 : Nat := 94
abbrev f_x4 : Nat := 95
def b_x63 : ICode :=
 .seq
 (.region [
 ⟨some 2, none, .boxL, [.slot 0], none⟩,
 ⟨some 3, none, .boxL, [.slot 1], none⟩,
 ⟨some 4, none, .id, [.val (.int .i64 0)], none⟩])
 (.seq
 (.region [
 ⟨some 5, none, .faddr 0, [.slot 2], none⟩,
 ⟨some 6, none, .load 1 false, [.slot 5], (some (.loc 2))⟩,
 ⟨some 7, none, .faddr 0, [.slot 3], none⟩,
 ⟨some 8, none, .load 1 false, [.slot 7], (some (.loc 3))⟩,
 ⟨some 9, none, .call f_x0, [.slot 6, .slot 8], none⟩,
 ⟨some 10, none, .faddr 1, [.slot 2], none⟩,
 ⟨some 11, none, .load 1 false, [.slot 10], (some (.loc 2))⟩,
 ⟨some 12, none, .faddr 1, [.slot 3], none⟩,
 ⟨some 13, none, .load 1 false, [.slot 12], (some (.loc 3))⟩,
 ⟨some 14, none, .call f_x1, [.slot 11, .slot 13], none⟩,
 ⟨some 15, none, .faddr 2, [.slot 2], none⟩,
 ⟨some 16, none, .load 1 false, [.slot 15], (some (.loc 2))⟩,
 ⟨some 17, none, .faddr 2, [.slot 3], none⟩,
 ⟨some 18, none, .load 1 false, [.slot 17], (some (.loc 3))⟩,
 ⟨some 19, none, .call f_x1, [.slot 16, .slot 18], none⟩,
 ⟨some 20, none, .faddr 3, [.slot 2], none⟩,
 ⟨some 21, none, .load 1 false, [.slot 20], (some (.loc 2))⟩,
 ⟨some 22, none, .faddr 3, [.slot 3], none⟩,
 ⟨some 23, none, .load 1 false, [.slot 22], (some (.loc 3))⟩,
 ⟨some 24, none, .call f_x1, [.slot 21, .slot 23], none⟩,
 ⟨some 25, none, .faddr 4, [.slot 2], none⟩,
 ⟨some 26, none, .load 1 false, [.slot 25], (some (.loc 2))⟩,
 ⟨some 27, none, .faddr 4, [.slot 3], none⟩,
 ⟨some 28, none, .load 1 false, [.slot 27], (some (.loc 3))⟩,
 ⟨some 29, none, .call f_x1, [.slot 26, .slot 28], none⟩,
 ⟨some 30, none, .buildSl 1 5 (.int .i64 0) [0, 1, 2, 3, 4], [.slot 9, .slot 14, .slot 19, .slot 24, .slot 29], none⟩,
 ⟨some 31, none, .call f_x2, [.slot 30], none⟩,
 ⟨some 4, none, .id, [.slot 31], none⟩])
 (.ret))
def F_x63 : IFun := ⟨32, [.slot 4], b_x63, 3, 0, nofn⟩
theorem c_store_Order : cFun Tryz.prog [1048578, 1048579] 0 f_x63 = some F_x63 := by kernel_rfl
def b_x65 : ICode :=
 .seq
 (.region [
 ⟨some 2, none, .boxL, [.slot 0], none⟩,
 ⟨some 3, none, .boxL, [.slot 1], none⟩,
 ⟨some 4, none, .id, [.val (.int .i64 0)], none⟩])
 (.seq
 (.region [
 ⟨some 5, none, .faddr 0, [.slot 2], none⟩,
 ⟨some 6, none, .load 5 true, [.slot 5], none⟩,
 ⟨some 7, none, .faddr 0, [.slot 3], none⟩,
 ⟨some 8, none, .load 5 true, [.slot 7], none⟩,
 ⟨some 9, none, .call f_x63, [.slot 6, .slot 8], none⟩,
 ⟨some 4, none, .id, [.slot 9], none⟩])
 (.ret))
def F_x65 : IFun := ⟨10, [.slot 4], b_x65, 3, 0, nofn⟩
theorem c_store_Store_All_1 : cFun Tryz.prog [1048578, 1048579] 0 f_x65 = some F_x65 := by kernel_rfl
def b_x75 : ICode :=
 .seq
 (.region [
 ⟨some 2, none, .boxL, [.slot 0], none⟩,
 ⟨some 3, none, .boxL, [.slot 1], none⟩,
 ⟨some 4, none, .id, [.val (.int .i64 0)], none⟩])
 (.seq
 (.region [
 ⟨some 5, none, .faddr 0, [.slot 2], none⟩,
 ⟨some 6, none, .load 1 false, [.slot 5], (some (.loc 2))⟩,
 ⟨some 7, none, .faddr 0, [.slot 3], none⟩,
 ⟨some 8, none, .load 1 false, [.slot 7], (some (.loc 3))⟩,
 ⟨some 9, none, .call f_x0, [.slot 6, .slot 8], none⟩,
 ⟨some 10, none, .faddr 1, [.slot 2], none⟩,
 ⟨some 11, none, .load 1 false, [.slot 10], (some (.loc 2))⟩,
 ⟨some 12, none, .faddr 1, [.slot 3], none⟩,
 ⟨some 13, none, .load 1 false, [.slot 12], (some (.loc 3))⟩,
 ⟨some 14, none, .call f_x0, [.slot 11, .slot 13], none⟩,
 ⟨some 15, none, .faddr 2, [.slot 2], none⟩,
 ⟨some 16, none, .load 1 false, [.slot 15], (some (.loc 2))⟩,
 ⟨some 17, none, .faddr 2, [.slot 3], none⟩,
 ⟨some 18, none, .load 1 false, [.slot 17], (some (.loc 3))⟩,
 ⟨some 19, none, .call f_x1, [.slot 16, .slot 18], none⟩,
 ⟨some 20, none, .buildSl 1 3 (.int .i64 0) [0, 1, 2], [.slot 9, .slot 14, .slot 19], none⟩,
 ⟨some 21, none, .call f_x2, [.slot 20], none⟩,
 ⟨some 4, none, .id, [.slot 21], none⟩])
 (.ret))
def F_x75 : IFun := ⟨22, [.slot 4], b_x75, 3, 0, nofn⟩
theorem c_value_Compare : cFun Tryz.prog [1048578, 1048579] 0 f_x75 = some F_x75 := by kernel_rfl
def L0_x2 : ICode :=
 .seq
 (.region [
 ⟨some 9, none, .bin .lss, [.slot 8, .slot 7], none⟩])
 (.seq
 (.cond (.slot 9)
 (.skip)
 (.exit 0))
 (.seq
 (.block 1
 (.seq
 (.region [
 ⟨some 10, none, .ixaddr 1, [.slot 6, .slot 8], none⟩,
 ⟨some 11, none, .load 1 false, [.slot 10], none⟩,
 ⟨some 5, none, .id, [.slot 11], none⟩])
 (.seq
 (.region [
 ⟨some 12, none, .id, [.slot 5], none⟩,
 ⟨some 13, none, .id, [.slot 3], none⟩,
 ⟨some 14, none, .bin .neq, [.slot 12, .slot 13], none⟩])
 (.cond (.slot 14)
 (.seq
 (.region [
 ⟨some 15, none, .id, [.slot 5], none⟩,
 ⟨some 2, none, .id, [.slot 15], none⟩])
 (.ret))
 (.skip)))))
 (.region [
 ⟨some 16, none, .bin .add, [.slot 8, .val (.int .i64 1)], none⟩,
 ⟨some 8, none, .id, [.slot 16], none⟩])))
def b_x2 : ICode :=
 .seq
 (.region [
 ⟨some 2, none, .id, [.val (.int .i64 0)], none⟩])
 (.seq
 (.region [
 ⟨some 3, none, .id, [.val (.int .i64 0)], none⟩])
 (.seq
 (.seq
 (.region [
 ⟨some 6, none, .id, [.slot 0], none⟩,
 ⟨some 7, none, .lensl, [.slot 6], none⟩,
 ⟨some 8, none, .id, [.val (.int .i64 0)], none⟩])
 (.block 0
 (.loop L0_x2)))
 (.seq
 (.region [
 ⟨some 17, none, .id, [.slot 3], none⟩,
 ⟨some 2, none, .id, [.slot 17], none⟩])
 (.ret))))
def F_x2 : IFun := ⟨18, [.slot 2], b_x2, 3, 0, nofn⟩
theorem c_cmp_Orint : cFun Tryz.prog [] 0 f_x2 = some F_x2 := by kernel_rfl
def b_x0 : ICode :=
 .seq
 (.region [
 ⟨some 4, none, .id, [.val (.int .i64 0)], none⟩])
 (.seq
 (.region [
 ⟨some 7, none, .id, [.slot 0], none⟩,
 ⟨some 8, none, .call f_x3, [.slot 7], none⟩,
 ⟨some 5, none, .id, [.slot 8], none⟩])
 (.seq
 (.region [
 ⟨some 9, none, .id, [.slot 1], none⟩,
 ⟨some 10, none, .call f_x3, [.slot 9], none⟩,
 ⟨some 6, none, .id, [.slot 10], none⟩])
 (.seq
 (.seq
 (.region [
 ⟨some 11, none, .id, [.slot 5], none⟩])
 (.cond (.slot 11)
 (.seq
 (.seq
 (.region [
 ⟨some 12, none, .id, [.slot 6], none⟩])
 (.cond (.slot 12)
 (.seq
 (.region [
 ⟨some 4, none, .id, [.val (.int .i64 0)], none⟩])
 (.ret))
 (.skip)))
 (.seq
 (.region [
 ⟨some 4, none, .id, [.val (.int .i64 (-1))], none⟩])
 (.ret)))
 (.skip)))
 (.seq
 (.seq
 (.region [
 ⟨some 13, none, .id, [.slot 6], none⟩])
 (.cond (.slot 13)
 (.seq
 (.region [
 ⟨some 4, none, .id, [.val (.int .i64 1)], none⟩])
 (.ret))
 (.skip)))
 (.seq
 (.seq
 (.region [
 ⟨some 14, none, .id, [.slot 0], none⟩,
 ⟨some 15, none, .id, [.slot 1], none⟩,
 ⟨some 16, none, .bin .lss, [.slot 14, .slot 15], none⟩])
 (.cond (.slot 16)
 (.seq
 (.region [
 ⟨some 4, none, .id, [.val (.int .i64 (-1))], none⟩])
 (.ret))
 (.skip)))
 (.seq
 (.seq
 (.region [
 ⟨some 17, none, .id, [.slot 0], none⟩,
 ⟨some 18, none, .id, [.slot 1], none⟩,
 ⟨some 19, none, .bin .gtr, [.slot 17, .slot 18], none⟩])
 (.cond (.slot 19)
 (.seq
 (.region [
 ⟨some 4, none, .id, [.val (.int .i64 1)], none⟩])
 (.ret))
 (.skip)))
 (.seq
 (.region [
 ⟨some 4, none, .id, [.val (.int .i64 0)], none⟩])
 (.ret))))))))
def F_x0 : IFun := ⟨20, [.slot 4], b_x0, 3, 0, nofn⟩
theorem c_cmp_Compareint : cFun Tryz.prog [] 0 f_x0 = some F_x0 := by kernel_rfl
def b_x1 : ICode :=
 .seq
 (.region [
 ⟨some 4, none, .id, [.val (.int .i64 0)], none⟩])
 (.seq
 (.region [
 ⟨some 7, none, .id, [.slot 0], none⟩,
 ⟨some 8, none, .call f_x4, [.slot 7], none⟩,
 ⟨some 5, none, .id, [.slot 8], none⟩])
 (.seq
 (.region [
 ⟨some 9, none, .id, [.slot 1], none⟩,
 ⟨some 10, none, .call f_x4, [.slot 9], none⟩,
 ⟨some 6, none, .id, [.slot 10], none⟩])
 (.seq
 (.seq
 (.region [
 ⟨some 11, none, .id, [.slot 5], none⟩])
 (.cond (.slot 11)
 (.seq
 (.seq
 (.region [
 ⟨some 12, none, .id, [.slot 6], none⟩])
 (.cond (.slot 12)
 (.seq
 (.region [
 ⟨some 4, none, .id, [.val (.int .i64 0)], none⟩])
 (.ret))
 (.skip)))
 (.seq
 (.region [
 ⟨some 4, none, .id, [.val (.int .i64 (-1))], none⟩])
 (.ret)))
 (.skip)))
 (.seq
 (.seq
 (.region [
 ⟨some 13, none, .id, [.slot 6], none⟩])
 (.cond (.slot 13)
 (.seq
 (.region [
 ⟨some 4, none, .id, [.val (.int .i64 1)], none⟩])
 (.ret))
 (.skip)))
 (.seq
 (.seq
 (.region [
 ⟨some 14, none, .id, [.slot 0], none⟩,
 ⟨some 15, none, .id, [.slot 1], none⟩,
 ⟨some 16, none, .bin .lss, [.slot 14, .slot 15], none⟩])
 (.cond (.slot 16)
 (.seq
 (.region [
 ⟨some 4, none, .id, [.val (.int .i64 (-1))], none⟩])
 (.ret))
 (.skip)))
 (.seq
 (.seq
 (.region [
 ⟨some 17, none, .id, [.slot 0], none⟩,
 ⟨some 18, none, .id, [.slot 1], none⟩,
 ⟨some 19, none, .bin .gtr, [.slot 17, .slot 18], none⟩])
 (.cond (.slot 19)
 (.seq
 (.region [
 ⟨some 4, none, .id, [.val (.int .i64 1)], none⟩])
 (.ret))
 (.skip)))
 (.seq
 (.region [
 ⟨some 4, none, .id, [.val (.int .i64 0)], none⟩])
 (.ret))))))))
def F_x1 : IFun := ⟨20, [.slot 4], b_x1, 3, 0, nofn⟩
theorem c_cmp_Comparestring : cFun Tryz.prog [] 0 f_x1 = some F_x1 := by kernel_rfl
def b_x3 : ICode :=
 .seq
 (.region [
 ⟨some 2, none, .id, [.val (.bool false)], none⟩])
 (.seq
 (.region [
 ⟨some 3, none, .id, [.slot 0], none⟩,
 ⟨some 4, none, .id, [.slot 0], none⟩,
 ⟨some 5, none, .bin .neq, [.slot 3, .slot 4], none⟩,
 ⟨some 2, none, .id, [.slot 5], none⟩])
 (.ret))
def F_x3 : IFun := ⟨6, [.slot 2], b_x3, 3, 0, nofn⟩
theorem c_cmp_isNaNint : cFun Tryz.prog [] 0 f_x3 = some F_x3 := by kernel_rfl
def b_x4 : ICode :=
 .seq
 (.region [
 ⟨some 2, none, .id, [.val (.bool false)], none⟩])
 (.seq
 (.region [
 ⟨some 3, none, .id, [.slot 0], none⟩,
 ⟨some 4, none, .id, [.slot 0], none⟩,
 ⟨some 5, none, .bin .neq, [.slot 3, .slot 4], none⟩,
 ⟨some 2, none, .id, [.slot 5], none⟩])
 (.ret))
def F_x4 : IFun := ⟨6, [.slot 2], b_x4, 3, 0, nofn⟩
theorem c_cmp_isNaNstring : cFun Tryz.prog [] 0 f_x4 = some F_x4 := by kernel_rfl
def rows : List (Nat × List Nat × IFun) := [
 (29, [1048578, 1048579], F_x63),
 (41, [1048578, 1048579], F_x65),
 (48, [1048578, 1048579], F_x75),
 (67, [], F_x2),
 (68, [], F_x0),
 (69, [], F_x1),
 (94, [], F_x3),
 (95, [], F_x4)]
def T : Nat → Option IFun := tableOf rows
theorem T_rows : @RowsOk lowFacts Tryz.prog rows :=
 @RowsOk.cons lowFacts _ _ _ _ _ c_store_Order (by decide) <|
 @RowsOk.cons lowFacts _ _ _ _ _ c_store_Store_All_1 (by decide) <|
 @RowsOk.cons lowFacts _ _ _ _ _ c_value_Compare (by decide) <|
 @RowsOk.cons lowFacts _ _ _ _ _ c_cmp_Orint (by decide) <|
 @RowsOk.cons lowFacts _ _ _ _ _ c_cmp_Compareint (by decide) <|
 @RowsOk.cons lowFacts _ _ _ _ _ c_cmp_Comparestring (by decide) <|
 @RowsOk.cons lowFacts _ _ _ _ _ c_cmp_isNaNint (by decide) <|
 @RowsOk.cons lowFacts _ _ _ _ _ c_cmp_isNaNstring (by decide) <|
 @RowsOk.nil lowFacts _
theorem T_ok : @TableOk lowFacts Tryz.prog T := @tableOf_ok lowFacts _ _ (by kernel_rfl) (@RowsOk.all lowFacts _ _ T_rows)
theorem T_x63 : T f_x63 = some F_x63 := by kernel_rfl
theorem T_x65 : T f_x65 = some F_x65 := by kernel_rfl
theorem T_x2 : T f_x2 = some F_x2 := by kernel_rfl
theorem T_x0 : T f_x0 = some F_x0 := by kernel_rfl
theorem T_x1 : T f_x1 = some F_x1 := by kernel_rfl
theorem T_x3 : T f_x3 = some F_x3 := by kernel_rfl
theorem T_x4 : T f_x4 = some F_x4 := by kernel_rfl
end Go.Proofs.YthmplnbogdfajaaGreatDoor.Low
namespace Go.Proofs.YthmplnbogdfajaaGreatDoor.Low
open Go.Sh
set_option maxRecDepth 100000
theorem isNaN_int (a : Int) (H : GH) : ecall T f_x3 [.int .i64 a] H = some (.bool false, H) := by
  apply optW.eq
  rw [ecall_0 T_x3 rfl (by simp [F_x3]), wp_fin1]
  simp [F_x3, b_x3]
theorem isNaN_str (a : ByteArray) (H : GH) : ecall T f_x4 [.str a] H = some (.bool false, H) := by
  apply optW.eq
  rw [ecall_0 T_x4 rfl (by simp [F_x4]), wp_fin1]
  simp [F_x4, b_x4]
theorem cmp_int (a b : Int) (H : GH) : ecall T f_x0 [.int .i64 a, .int .i64 b] H = some (.int .i64 (cmpI a b), H) := by
  apply optW.eq
  rw [ecall_0 T_x0 rfl (by simp [F_x0]), wp_fin1]
  by_cases h : a < b
  · simp [F_x0, b_x0, isNaN_int, cmpI, h]
  · by_cases h' : b < a <;> simp [F_x0, b_x0, isNaN_int, cmpI, h, h']
theorem cmp_str (a b : ByteArray) (H : GH) : ecall T f_x1 [.str a, .str b] H = some (.int .i64 (cmpS a b), H) := by
  apply optW.eq
  rw [ecall_0 T_x1 rfl (by simp [F_x1]), wp_fin1]
  unfold cmpS
  cases h : Op.bytesLess a.toList b.toList
  · by_cases h' : a.toList = b.toList
    · have h2 := h
      rw [h'] at h2
      simp [F_x1, b_x1, isNaN_str, h2, h', gStr]
    · have h3 : (a.toList == b.toList) = false := beq_eq_false_iff_ne.2 h'
      simp [F_x1, b_x1, isNaN_str, h, h', h3, gStr]
  · simp [F_x1, b_x1, isNaN_str, h, gStr]
theorem cmp_lex (a b : List UInt8) (H : GH) : ecall T f_x1 [.str (mkB a), .str (mkB b)] H = some (.int .i64 (lexL a b), H) := by
  have := cmp_str (mkB a) (mkB b) H
  rwa [cmpS_lex, mkB_data, mkB_data] at this
theorem cmp_or2 (x y : Int) (H : GH) : ecall T f_x2 [.sl 1 [.int .i64 x, .int .i64 y] .exact] H = some (.int .i64 (orL [x, y]), H) := by
  apply optW.eq
  rw [ecall_0 T_x2 rfl (by simp [F_x2]), wp_fin1]
  have w1 : IntKind.i64.wrap 1 = 1 := by decide
  have w2 : IntKind.i64.wrap 2 = 2 := by decide
  by_cases hx : x = 0
  · by_cases hy : y = 0 <;> simp [F_x2, b_x2, hx, hy, run_loop, L0_x2, gIx, w1, w2, orL]
  · simp [F_x2, b_x2, hx, run_loop, L0_x2, gIx, w1, w2, orL]
theorem cmp_or5 (x y z u v : Int) (H : GH) : ecall T f_x2 [.sl 1 [.int .i64 x, .int .i64 y, .int .i64 z, .int .i64 u, .int .i64 v] .exact] H = some (.int .i64 (orL [x, y, z, u, v]), H) := by
  apply optW.eq
  rw [ecall_0 T_x2 rfl (by simp [F_x2]), wp_fin1]
  have w1 : IntKind.i64.wrap 1 = 1 := by decide
  have w2 : IntKind.i64.wrap 2 = 2 := by decide
  have w3 : IntKind.i64.wrap 3 = 3 := by decide
  have w4 : IntKind.i64.wrap 4 = 4 := by decide
  have w5 : IntKind.i64.wrap 5 = 5 := by decide
  by_cases hx : x = 0
  · by_cases hy : y = 0
    · by_cases hz : z = 0
      · by_cases hu : u = 0
        · by_cases hv : v = 0 <;> simp [F_x2, b_x2, hx, hy, hz, hu, hv, run_loop, L0_x2, gIx, w1, w2, w3, w4, w5, orL]
        · simp [F_x2, b_x2, hx, hy, hz, hu, run_loop, L0_x2, gIx, w1, w2, w3, w4, w5, orL]
      · simp [F_x2, b_x2, hx, hy, hz, run_loop, L0_x2, gIx, w1, w2, w3, w4, w5, orL]
    · simp [F_x2, b_x2, hx, hy, run_loop, L0_x2, gIx, w1, w2, w3, w4, w5, orL]
  · simp [F_x2, b_x2, hx, run_loop, L0_x2, gIx, w1, w2, w3, w4, w5, orL]
theorem store_Order (x y : El) (H : GH) : ecall T f_x63 [.agg (elC x), .agg (elC y)] H = some (.int .i64 (ordE x y), H) := by
  apply optW.eq
  rw [ecall_0 T_x63 rfl (by simp [F_x63]), wp_fin1]
  simp [F_x63, b_x63, elC, cmp_int, cmp_lex, gSetAll, cmp_or5, ordE]
theorem store_All_1 (x y : El) (v w : GV) (hv : v.one = true) (hw : w.one = true) (hv' : v.ok = true) (hw' : w.ok = true) (H : GH) : ecall T f_x65 [.agg (elC x ++ [v]), .agg (elC y ++ [w])] H = some (.int .i64 (ordE x y), H) := by
  have h := fun H => store_Order x y H
  simp only [elC] at h
  apply optW.eq
  rw [ecall_0 T_x65 rfl (by simp [F_x65]), wp_fin1]
  simp [F_x65, b_x65, elC, h, hv, hw, hv', hw']
end Go.Proofs.YthmplnbogdfajaaGreatDoor.Low
