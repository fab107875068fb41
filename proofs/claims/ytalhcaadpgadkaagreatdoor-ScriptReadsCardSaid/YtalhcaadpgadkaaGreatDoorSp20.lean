/- Own work, over the shadow machine: SSpec20. -/
import Derived.Test.YtalhcaadpgadkaaGreatDoorSp19
import Derived.Test.YtalhcaadpgadkaaGreatDoorShF
set_option linter.all false
namespace Go.Proofs.YtalhcaadpgadkaaGreatDoor
open Go.Sh
set_option maxRecDepth 100000

/-! ## The document's numbers, and what is bare -/

def numsL (x : Stp) : List Int := (ownL x.k).map x.num ++ (if turnB x.k then [x.by_] else [])

theorem ref_numbers (x : Stp) (hf : SFit x) (v : GV) (H : GH) : ecall T f_hedgerowref29_numbers [stpG x v] H = some (.sl 1 ((numsL x).map fun n => .int .i64 n) .exact, H) := by
  have vb : IntKind.i64.wrap x.by_ = x.by_ := wrap_i64' (by have := hf.b1; omega) (by have := hf.b2; omega)
  apply optW.eq
  rw [ecall_0 T_hedgerowref29_numbers rfl (by simp [F_hedgerowref29_numbers]), wp_fin1]
  rcases own_cases x.k with h | h | h | h | h | h | h | ⟨h2, h3, h4, h5, h6, h7, h10⟩
  all_goals first
    | (simp [F_hedgerowref29_numbers, b_hedgerowref29_numbers, stpG, stpC, numsL, ownL, turnB, Stp.num, h, gSetAll, vb]; done)
    | (simp [F_hedgerowref29_numbers, b_hedgerowref29_numbers, stpG, stpC, numsL, ownL, turnB, Stp.num, h2, h3, h4, h5, h6, h7, h10, gSetAll, vb]; done)

set_option maxHeartbeats 2000000 in
theorem ref_bare (x : Stp) (v : GV) (hv : Elems 9 v (x.chs.map chgG)) (H : GH) : ecall T f_hedgerowref29_bare [stpG x v] H = some (.bool x.plainB, H) := by
  have hl := hv.len
  have hu := elemsUnbox hv
  have hok := hv.ok
  have hc := hv.cells
  have ho := hv.one
  have hP : x.plainB = (decide (x.k < 3 ∨ 6 < x.k ∨ x.r = 0) && (decide (x.k = 2 ∨ x.s = 0) && (decide (3 ≤ x.k ∧ x.k ≤ 6 ∨ x.i = 0) && (decide (x.k = 7 ∨ x.kp = 0) && (decide (x.k = 6 ∨ x.k = 7 ∨ x.k = 10 ∨ x.at_ = 0 ∧ x.by_ = 0) && decide (x.k = 1 ∧ x.chs.length ≤ 64 ∨ x.chs.length = 0)))))) := by
    simp only [Stp.plainB]
    generalize x.chs.length = m
    rw [Bool.eq_iff_iff]
    rcases own_cases x.k with h | h | h | h | h | h | h | ⟨h2, h3, h4, h5, h6, h7, h10⟩
    iterate 7 (· simp [Stp.plainB, ownL, turnB, Stp.num, h] <;> omega)
    · have h36 : ¬ (3 ≤ x.k ∧ x.k ≤ 6) := by omega
      have h37 : x.k < 3 ∨ 6 < x.k := by omega
      simp [Stp.plainB, ownL, turnB, Stp.num, h2, h3, h4, h5, h6, h7, h10, h36, h37] <;> omega
  rw [hP]
  obtain ⟨m, hm⟩ : ∃ m, x.chs.length = m := ⟨_, rfl⟩
  apply optW.eq
  rw [ecall_0 T_hedgerowref29_bare rfl (by simp [F_hedgerowref29_bare]), wp_fin1]
  simp only [F_hedgerowref29_bare, b_hedgerowref29_bare]
  rw [run_seq, wp_seqK]
  refine regStep (fun l => lget l 1 = .lbox 0 (stpC x v)) rfl ?_ ?_
  · simp [stpG, stpC]
  intro l1 g1 f1 q1
  rw [seqP_normal, run_seq, wp_seqK]
  refine regStep (fun l => lget l 3 = .bool (decide (x.k < 3 ∨ 6 < x.k ∨ x.r = 0))) rfl ?_ ?_
  · by_cases a1 : x.k < 3
    · simp [q1, stpC, a1]
    · by_cases a2 : 6 < x.k <;> simp [q1, stpC, a1, a2]
  intro l2 g2 f2 q3
  rw [← f2 1 rfl] at q1
  rw [seqP_normal, run_seq, wp_seqK]
  refine regStep (fun l => lget l 4 = .bool (decide (x.k = 2 ∨ x.s = 0))) rfl ?_ ?_
  · by_cases a1 : x.k = 2 <;> simp [q1, stpC, a1]
  intro l3 g3 f3 q4
  rw [← f3 1 rfl] at q1
  rw [← f3 3 rfl] at q3
  rw [seqP_normal, run_seq, wp_seqK]
  refine regStep (fun l => lget l 5 = .bool (decide (3 ≤ x.k ∧ x.k ≤ 6 ∨ x.i = 0))) rfl ?_ ?_
  · by_cases a1 : 3 ≤ x.k
    · by_cases a2 : x.k ≤ 6 <;> simp [q1, stpC, a1, a2]
    · simp [q1, stpC, a1]
  intro l4 g4 f4 q5
  rw [← f4 1 rfl] at q1
  rw [← f4 3 rfl] at q3
  rw [← f4 4 rfl] at q4
  rw [seqP_normal, run_seq, wp_seqK]
  refine regStep (fun l => lget l 6 = .bool (decide (x.k = 7 ∨ x.kp = 0))) rfl ?_ ?_
  · by_cases a1 : x.k = 7 <;> simp [q1, stpC, a1]
  intro l5 g5 f5 q6
  rw [← f5 1 rfl] at q1
  rw [← f5 3 rfl] at q3
  rw [← f5 4 rfl] at q4
  rw [← f5 5 rfl] at q5
  rw [seqP_normal, run_seq, wp_seqK]
  refine regStep (fun l => lget l 7 = .bool (decide (x.k = 6 ∨ x.k = 7 ∨ x.k = 10 ∨ x.at_ = 0 ∧ x.by_ = 0))) rfl ?_ ?_
  · by_cases a1 : x.k = 6
    · simp [q1, stpC, a1]
    by_cases a2 : x.k = 7
    · simp [q1, stpC, a2]
    by_cases a3 : x.k = 10
    · simp [q1, stpC, a3]
    by_cases a4 : x.at_ = 0 <;> simp [q1, stpC, a1, a2, a3, a4]
  intro l6 g6 f6 q7
  rw [← f6 1 rfl] at q1
  rw [← f6 3 rfl] at q3
  rw [← f6 4 rfl] at q4
  rw [← f6 5 rfl] at q5
  rw [← f6 6 rfl] at q6
  rw [seqP_normal]
  generalize decide (x.k < 3 ∨ 6 < x.k ∨ x.r = 0) = b3 at q3 ⊢
  generalize decide (x.k = 2 ∨ x.s = 0) = b4 at q4 ⊢
  generalize decide (3 ≤ x.k ∧ x.k ≤ 6 ∨ x.i = 0) = b5 at q5 ⊢
  generalize decide (x.k = 7 ∨ x.kp = 0) = b6 at q6 ⊢
  generalize decide (x.k = 6 ∨ x.k = 7 ∨ x.k = 10 ∨ x.at_ = 0 ∧ x.by_ = 0) = b7 at q7 ⊢
  have hm0 : (x.chs = []) ↔ m = 0 := by rw [← hm, List.length_eq_zero_iff]
  cases b3
  · simp [q1, q3]
  cases b4
  · simp [q1, q3, q4]
  cases b5
  · simp [q1, q3, q4, q5]
  cases b6
  · simp [q1, q3, q4, q5, q6]
  cases b7
  · simp [q1, q3, q4, q5, q6, q7]
  by_cases a1 : x.k = 1
  · by_cases a2 : (m : Int) ≤ 64
    · have a3 : m ≤ 64 := by omega
      simp [q1, q3, q4, q5, q6, q7, stpC, a1, a2, a3, hl, hu, hok, hm]
    · have a3 : ¬ m ≤ 64 := by omega
      have a4 : ¬ m = 0 := by omega
      simp [q1, q3, q4, q5, q6, q7, stpC, a1, a2, a3, a4, hl, hu, hok, hm, hm0]
  · simp [q1, q3, q4, q5, q6, q7, stpC, a1, hl, hu, hok, hm, hm0]
end Go.Proofs.YtalhcaadpgadkaaGreatDoor
