/- Own work, over the shadow machine: VSpec1. -/
import Derived.Test.YtbcdhjalciljaaaDoorFun
import Derived.Test.YtbcdhjalciljaaaDoorShF
set_option linter.all false
namespace Go.Proofs.YtbcdhjalciljaaaDoor
open Go.Sh
set_option maxRecDepth 100000

/-! ## cmp -/

def cmpI (a b : Int) : Int := if a < b then -1 else if a > b then 1 else 0
def cmpS (a b : ByteArray) : Int := if Op.bytesLess a.toList b.toList = true then -1 else if a.toList = b.toList then 0 else 1

theorem isNaN_int (a : Int) (H : GH) : ecall T f_cmp_isNaNint [.int .i64 a] H = some (.bool false, H) := by
  apply optW.eq
  rw [ecall_0 T_cmp_isNaNint rfl (by simp [F_cmp_isNaNint]), wp_fin1]
  simp [F_cmp_isNaNint, b_cmp_isNaNint]

theorem isNaN_str (a : ByteArray) (H : GH) : ecall T f_cmp_isNaNstring [.str a] H = some (.bool false, H) := by
  apply optW.eq
  rw [ecall_0 T_cmp_isNaNstring rfl (by simp [F_cmp_isNaNstring]), wp_fin1]
  simp [F_cmp_isNaNstring, b_cmp_isNaNstring]

theorem cmp_int (a b : Int) (H : GH) : ecall T f_cmp_Compareint [.int .i64 a, .int .i64 b] H = some (.int .i64 (cmpI a b), H) := by
  apply optW.eq
  rw [ecall_0 T_cmp_Compareint rfl (by simp [F_cmp_Compareint]), wp_fin1]
  by_cases h : a < b
  · simp [F_cmp_Compareint, b_cmp_Compareint, isNaN_int, cmpI, h]
  · by_cases h' : b < a <;> simp [F_cmp_Compareint, b_cmp_Compareint, isNaN_int, cmpI, h, h']

theorem cmp_str (a b : ByteArray) (H : GH) : ecall T f_cmp_Comparestring [.str a, .str b] H = some (.int .i64 (cmpS a b), H) := by
  apply optW.eq
  rw [ecall_0 T_cmp_Comparestring rfl (by simp [F_cmp_Comparestring]), wp_fin1]
  unfold cmpS
  cases h : Op.bytesLess a.toList b.toList
  · by_cases h' : a.toList = b.toList
    · have h2 := h
      rw [h'] at h2
      simp [F_cmp_Comparestring, b_cmp_Comparestring, isNaN_str, h2, h', gStr]
    · have h3 : (a.toList == b.toList) = false := beq_eq_false_iff_ne.2 h'
      simp [F_cmp_Comparestring, b_cmp_Comparestring, isNaN_str, h, h', h3, gStr]
  · simp [F_cmp_Comparestring, b_cmp_Comparestring, isNaN_str, h, gStr]

def or3 (x y z : Int) : Int := if x ≠ 0 then x else if y ≠ 0 then y else z

theorem cmp_or (x y z : Int) (H : GH) : ecall T f_cmp_Orint [.sl 1 [.int .i64 x, .int .i64 y, .int .i64 z] .exact] H = some (.int .i64 (or3 x y z), H) := by
  apply optW.eq
  rw [ecall_0 T_cmp_Orint rfl (by simp [F_cmp_Orint]), wp_fin1]
  unfold or3
  have w1 : IntKind.i64.wrap 1 = 1 := by decide
  have w2 : IntKind.i64.wrap 2 = 2 := by decide
  have w3 : IntKind.i64.wrap 3 = 3 := by decide
  by_cases hx : x = 0
  · by_cases hy : y = 0
    · by_cases hz : z = 0 <;> simp [F_cmp_Orint, b_cmp_Orint, hx, hy, hz, run_loop, L0_cmp_Orint, gIx, w1, w2, w3]
    · simp [F_cmp_Orint, b_cmp_Orint, hx, hy, run_loop, L0_cmp_Orint, gIx, w1, w2, w3]
  · simp [F_cmp_Orint, b_cmp_Orint, hx, run_loop, L0_cmp_Orint, gIx, w1, w2, w3]

/-- A value. -/
def val (k n : Int) (s : ByteArray) : GV := .agg [.int .i64 k, .int .i64 n, .str s]

def cmpV (k n : Int) (s : ByteArray) (k' n' : Int) (s' : ByteArray) : Int := or3 (cmpI k k') (cmpI n n') (cmpS s s')

theorem value_cmp (k n : Int) (s : ByteArray) (k' n' : Int) (s' : ByteArray) (H : GH) : ecall T f_value_Compare [val k n s, val k' n' s'] H = some (.int .i64 (cmpV k n s k' n' s'), H) := by
  apply optW.eq
  rw [ecall_0 T_value_Compare rfl (by simp [F_value_Compare]), wp_fin1]
  simp [F_value_Compare, b_value_Compare, val, cmp_int, cmp_str, cmp_or, cmpV, gSetAll]
end Go.Proofs.YtbcdhjalciljaaaDoor
