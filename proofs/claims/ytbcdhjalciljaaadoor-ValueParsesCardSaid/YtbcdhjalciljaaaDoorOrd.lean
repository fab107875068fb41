/- Own work, over the shadow machine: VOrd. -/
import Derived.Test.YtbcdhjalciljaaaDoorLa2
set_option linter.all false
namespace Go.Proofs.YtbcdhjalciljaaaDoor
open Go.Sh
set_option maxRecDepth 100000

theorem str_beq {a b : ByteArray} : (a == b) = true ↔ a = b := by
  rcases a with ⟨a⟩; rcases b with ⟨b⟩
  constructor
  · intro h
    have h2 : (a == b) = true := h
    rw [beq_iff_eq.1 h2]
  · intro h
    injection h with h
    subst h
    show (a == a) = true
    exact beq_self_eq_true _

theorem fixed_ok (H : GH) : ecall T f_hedgerowlaw01_fixed [] H = some (.bool true, H) := ecall_iff.2 ⟨200, fixed_run H⟩

theorem cmp_refV (k n : Int) (s : ByteArray) (k' n' : Int) (s' : ByteArray) (H : GH) : ecall T f_value_Compare [.agg [.int .i64 k, .int .i64 n, .str s], .agg [.int .i64 k', .int .i64 n', .str s']] H = some (.int .i64 (refV k n s k' n' s'), H) := by
  rw [← cmpV_ref]; exact value_cmp k n s k' n' s' H

theorem lex_range : ∀ a b : List UInt8, -1 ≤ lexL a b ∧ lexL a b ≤ 1
  | [], [] => by simp [lexL]
  | [], _ :: _ => by simp [lexL]
  | _ :: _, [] => by simp [lexL]
  | x :: a, y :: b => by
    have := lex_range a b
    simp only [lexL]
    split
    · omega
    · split <;> omega

theorem refV_range (k n : Int) (s : ByteArray) (k' n' : Int) (s' : ByteArray) : -1 ≤ refV k n s k' n' s' ∧ refV k n s k' n' s' ≤ 1 := by
  unfold refV
  rw [refS_lex]
  have := lex_range s.data.toList s'.data.toList
  split
  · split <;> omega
  · split
    · split <;> omega
    · exact this

theorem orders_ok (k n : Int) (s : ByteArray) (k' n' : Int) (s' : ByteArray) (k2 n2 : Int) (s2 : ByteArray) (hs : s.size ≤ 9223372036854775807) (H : GH) :
    ecall T f_hedgerowlaw01_ValueOrders [.agg [.int .i64 k, .int .i64 n, .str s], .agg [.int .i64 k', .int .i64 n', .str s'], .agg [.int .i64 k2, .int .i64 n2, .str s2]] H = some (.bool true, H) := by
  apply optW.eq
  rw [ecall_0 T_hedgerowlaw01_ValueOrders rfl (by simp [F_hedgerowlaw01_ValueOrders]), wp_fin1]
  by_cases hb : 600 < IntKind.i64.wrap (IntKind.i64.wrap ((s.size : Int) + s'.size) + s2.size)
  · simp [F_hedgerowlaw01_ValueOrders, b_hedgerowlaw01_ValueOrders, fixed_ok, hb]
  · have r1 := refV_range k n s k' n' s'
    have hz := refV_zero k n s k' n' s'
    have hsw := refV_swap k n s k' n' s'
    have htr := refV_trans k n s k' n' s' k2 n2 s2
    have href := ref_cmp k n s k' n' s' hs H
    simp only [val] at href
    have hneg : IntKind.i64.wrap (0 - refV k' n' s' k n s) = refV k n s k' n' s' := by rw [hsw, wrap_i64' (by omega) (by omega)]; omega
    have heq : leavesEq [.int .i64, .int .i64, .str] [.int .i64 k, .int .i64 n, .str s] [.int .i64 k', .int .i64 n', .str s'] = some (decide (refV k n s k' n' s' = 0)) := by
      simp only [leavesEq, leafEq, if_true]
      congr 1
      rw [Bool.eq_iff_iff]
      simp only [Bool.and_eq_true, beq_iff_eq, str_beq, decide_eq_true_eq, hz, and_true]
    obtain ⟨ab, hab⟩ : ∃ ab, refV k n s k' n' s' = ab := ⟨_, rfl⟩
    rw [hab] at r1 hz hsw htr href hneg heq
    rw [hsw] at hneg
    have hw : IntKind.i64.wrap ab = ab := wrap_i64' (by omega) (by omega)
    clear hneg
    by_cases h0 : ab = 0
    · subst h0
      by_cases h3 : 0 < refV k' n' s' k2 n2 s2
      · simp [F_hedgerowlaw01_ValueOrders, b_hedgerowlaw01_ValueOrders, fixed_ok, hb, cmp_refV, href, hw, heq, hab, h3, hsw]
      · have h4 := htr (by omega) (by omega)
        simp [F_hedgerowlaw01_ValueOrders, b_hedgerowlaw01_ValueOrders, fixed_ok, hb, cmp_refV, href, hw, heq, hab, h3, h4, hsw]
    · by_cases h2 : 0 < ab
      · simp [F_hedgerowlaw01_ValueOrders, b_hedgerowlaw01_ValueOrders, fixed_ok, hb, cmp_refV, href, hw, heq, hab, h0, h2, hsw]
      · by_cases h3 : 0 < refV k' n' s' k2 n2 s2
        · simp [F_hedgerowlaw01_ValueOrders, b_hedgerowlaw01_ValueOrders, fixed_ok, hb, cmp_refV, href, hw, heq, hab, h0, h2, h3, hsw]
        · have h4 := htr (by omega) (by omega)
          simp [F_hedgerowlaw01_ValueOrders, b_hedgerowlaw01_ValueOrders, fixed_ok, hb, cmp_refV, href, hw, heq, hab, h0, h2, h3, h4, hsw]
end Go.Proofs.YtbcdhjalciljaaaDoor
