/- Own work, over the shadow machine: JSpec7. -/
import Derived.Test.YtalhcaadpgadkaaDoorSp6
set_option linter.all false
namespace Go.Proofs.YtalhcaadpgadkaaDoor
open Go.Sh
set_option maxRecDepth 100000

/-! ## A step's own numbers, and what doesn't belong to it -/

def orI (a b : Int) : Int := IntKind.i64.wrap ((BitVec.ofInt 64 a ||| BitVec.ofInt 64 b).toNat : Int)
theorem gOr (a b : Int) : gInt .or .i64 a b = some (.int .i64 (orI a b)) := rfl

theorem or_range (a b : Int) : -9223372036854775808 ≤ orI a b ∧ orI a b ≤ 9223372036854775807 := by
  unfold orI
  generalize (BitVec.ofInt 64 a ||| BitVec.ofInt 64 b) = w
  rw [IntKind.wrap_i64]
  omega

theorem ofInt_zero {a : Int} (h1 : -9223372036854775808 ≤ a) (h2 : a ≤ 9223372036854775807) : BitVec.ofInt 64 a = 0#64 ↔ a = 0 := by
  constructor
  · intro h
    have := congrArg BitVec.toNat h
    rw [BitVec.toNat_ofInt, BitVec.toNat_ofNat] at this
    omega
  · rintro rfl; rfl

theorem or_zero {a b : Int} (h1 : -9223372036854775808 ≤ a) (h2 : a ≤ 9223372036854775807) (h3 : -9223372036854775808 ≤ b) (h4 : b ≤ 9223372036854775807) : orI a b = 0 ↔ a = 0 ∧ b = 0 := by
  rw [← ofInt_zero h1 h2, ← ofInt_zero h3 h4, ← BitVec.or_eq_zero_iff]
  unfold orI
  generalize (BitVec.ofInt 64 a ||| BitVec.ofInt 64 b) = w
  rw [IntKind.wrap_i64]
  constructor
  · intro h
    apply BitVec.eq_of_toNat_eq
    simp
    omega
  · rintro rfl; decide

theorem or6 {a b c d e f : Int} (a1 : -9223372036854775808 ≤ a) (a2 : a ≤ 9223372036854775807) (b1 : -9223372036854775808 ≤ b) (b2 : b ≤ 9223372036854775807) (c1 : -9223372036854775808 ≤ c) (c2 : c ≤ 9223372036854775807)
    (d1 : -9223372036854775808 ≤ d) (d2 : d ≤ 9223372036854775807) (e1 : -9223372036854775808 ≤ e) (e2 : e ≤ 9223372036854775807) (f1 : -9223372036854775808 ≤ f) (f2 : f ≤ 9223372036854775807) :
    orI (orI (orI (orI (orI a b) c) d) e) f = 0 ↔ a = 0 ∧ b = 0 ∧ c = 0 ∧ d = 0 ∧ e = 0 ∧ f = 0 := by
  rw [or_zero (or_range _ _).1 (or_range _ _).2 f1 f2, or_zero (or_range _ _).1 (or_range _ _).2 e1 e2, or_zero (or_range _ _).1 (or_range _ _).2 d1 d2, or_zero (or_range _ _).1 (or_range _ _).2 c1 c2, or_zero a1 a2 b1 b2]
  constructor
  · rintro ⟨⟨⟨⟨⟨h1, h2⟩, h3⟩, h4⟩, h5⟩, h6⟩; exact ⟨h1, h2, h3, h4, h5, h6⟩
  · rintro ⟨h1, h2, h3, h4, h5, h6⟩; exact ⟨⟨⟨⟨⟨h1, h2⟩, h3⟩, h4⟩, h5⟩, h6⟩

/-- Cells of a step. -/
def stpC (x : Stp) (v : GV) : List GV := [.int .i64 x.k, .int .i64 x.r, .int .i64 x.s, .int .i64 x.i, .int .i64 x.kp, .int .i64 x.at_, .int .u8 x.by_, v]
def stpG (x : Stp) (v : GV) : GV := .agg (stpC x v)

structure SFit (x : Stp) : Prop where
  r1 : -9223372036854775808 ≤ x.r
  r2 : x.r ≤ 9223372036854775807
  s1 : -9223372036854775808 ≤ x.s
  s2 : x.s ≤ 9223372036854775807
  i1 : -9223372036854775808 ≤ x.i
  i2 : x.i ≤ 9223372036854775807
  p1 : -9223372036854775808 ≤ x.kp
  p2 : x.kp ≤ 9223372036854775807
  t1 : -9223372036854775808 ≤ x.at_
  t2 : x.at_ ≤ 9223372036854775807
  b1 : 0 ≤ x.by_
  b2 : x.by_ ≤ 255

theorem own_cases (k : Int) : k = 2 ∨ k = 3 ∨ k = 4 ∨ k = 5 ∨ k = 6 ∨ k = 7 ∨ k = 10 ∨ (k ≠ 2 ∧ k ≠ 3 ∧ k ≠ 4 ∧ k ≠ 5 ∧ k ≠ 6 ∧ k ≠ 7 ∧ k ≠ 10) := by omega

theorem own_ok {H : GH} {id t : Nat} (k : Int) (c1 c2 c3 c4 c5 c6 c7 : GV) (ho : H.objs[id]? = some (.cells t [.int .i64 k, c1, c2, c3, c4, c5, c6, c7])) :
    ecall T f_script_own [.ptr id 0] H = some (.sl 1 ((ownL k).map fun o => .ptr id o) .exact, H) := by
  apply optW.eq
  rw [ecall_0 T_script_own rfl (by simp [F_script_own]), wp_fin1]
  rcases own_cases k with h | h | h | h | h | h | h | ⟨h2, h3, h4, h5, h6, h7, h10⟩
  all_goals first
    | (simp [F_script_own, b_script_own, ho, ownL, h, gSetAll]; done)
    | (simp [F_script_own, b_script_own, ho, ownL, h2, h3, h4, h5, h6, h7, h10, gSetAll]; done)

set_option maxHeartbeats 2000000 in
theorem plain_ok (x : Stp) (hf : SFit x) (v : GV) (hv : Elems 9 v (x.chs.map chgG)) (H : GH) : ecall T f_script_plain [stpG x v] H = some (.bool x.plainB, H) := by
  have hlb : ∀ (call : Nat → List GV → GH → Option (GV × GH)) (l : List GV) (g : Nat) (H : GH), geff call .lensl [v] ⟨l, g⟩ H = some ⟨.int .i64 (x.chs.map chgG).length, none, H, g⟩ := hv.len
  have hub : ∀ t, unbox t v = v := elemsUnbox hv
  have hok := hv.ok
  have hone := hv.one
  have hcel := hv.cells
  have v1 : IntKind.i64.wrap 1 = 1 := by decide
  have v2 : IntKind.i64.wrap 2 = 2 := by decide
  have v3 : IntKind.i64.wrap 3 = 3 := by decide
  have vb : IntKind.i64.wrap x.by_ = x.by_ := wrap_i64' (by have := hf.b1; omega) (by have := hf.b2; omega)
  have v0 : IntKind.i64.wrap 0 = 0 := by decide
  have hown := fun tk bo bt k c1 c2 c3 c4 c5 c6 c7 => own_ok (H := ⟨H.objs ++ [.cells 33 [.int .i64 k, c1, c2, c3, c4, c5, c6, c7]], tk, bo, bt⟩) (id := H.objs.length) (t := 33) k c1 c2 c3 c4 c5 c6 c7 (by simp)
  obtain ⟨r1, r2, s1, s2, i1, i2, p1, p2, t1, t2, b1, b2⟩ := hf
  have b3 : -9223372036854775808 ≤ x.by_ := by omega
  have b4 : x.by_ ≤ 9223372036854775807 := by omega
  have z1 : (-9223372036854775808 : Int) ≤ 0 := by decide
  have z2 : (0 : Int) ≤ 9223372036854775807 := by decide
  apply optW.eq
  rw [ecall_1 T_script_plain rfl (by simp [F_script_plain]), wp_fin1]
  rcases own_cases x.k with h | h | h | h | h | h | h | ⟨h2, h3, h4, h5, h6, h7, h10⟩
  · have e := or6 z1 z2 z1 z2 i1 i2 p1 p2 t1 t2 b3 b4
    obtain ⟨w, hw⟩ : ∃ w, orI (orI (orI (orI (orI 0 0) x.i) x.kp) x.at_) x.by_ = w := ⟨_, rfl⟩
    rw [hw] at e
    have hpl : x.plainB = (decide (w = 0) && decide (x.k = 1 ∧ x.chs.length ≤ 64 ∨ x.chs.length = 0)) := by
      rw [Bool.eq_iff_iff]
      simp [Stp.plainB, ownL, h, turnB, Stp.num, e, and_assoc]
      try omega
    rw [hpl]
    by_cases hz : w = 0
    · by_cases hl0 : x.chs.length = 0
      · have hl0' : (x.chs.length : Int) = 0 := by omega
        by_cases hk1 : x.k = 1 <;> simp [F_script_plain, b_script_plain, stpG, stpC, GH.newObj, hown, ownL, h, turned_ok, turnB, run_loop, L0_script_plain, gIx, v0, v1, v2, v3, vb, setPart, gOr, hlb, hub, hok, hone, hcel, hw, hz, hl0, hl0', hk1]
      · have hl0' : ¬ (x.chs.length : Int) = 0 := by omega
        have hl1 : ¬ x.chs = [] := fun e => hl0 (by rw [e]; rfl)
        by_cases hk1 : x.k = 1
        · by_cases h64 : x.chs.length ≤ 64
          · have h64' : (x.chs.length : Int) ≤ 64 := by omega
            simp [F_script_plain, b_script_plain, stpG, stpC, GH.newObj, hown, ownL, h, turned_ok, turnB, run_loop, L0_script_plain, gIx, v0, v1, v2, v3, vb, setPart, gOr, hlb, hub, hok, hone, hcel, hw, hz, hl0, hl0', hl1, hk1, h64, h64']
          · have h64' : ¬ (x.chs.length : Int) ≤ 64 := by omega
            simp [F_script_plain, b_script_plain, stpG, stpC, GH.newObj, hown, ownL, h, turned_ok, turnB, run_loop, L0_script_plain, gIx, v0, v1, v2, v3, vb, setPart, gOr, hlb, hub, hok, hone, hcel, hw, hz, hl0, hl0', hl1, hk1, h64, h64']
        · simp [F_script_plain, b_script_plain, stpG, stpC, GH.newObj, hown, ownL, h, turned_ok, turnB, run_loop, L0_script_plain, gIx, v0, v1, v2, v3, vb, setPart, gOr, hlb, hub, hok, hone, hcel, hw, hz, hl0, hl0', hl1, hk1]
    · simp [F_script_plain, b_script_plain, stpG, stpC, GH.newObj, hown, ownL, h, turned_ok, turnB, run_loop, L0_script_plain, gIx, v0, v1, v2, v3, vb, setPart, gOr, hlb, hub, hok, hone, hcel, hw, hz]
  · have e := or6 r1 r2 s1 s2 z1 z2 p1 p2 t1 t2 b3 b4
    obtain ⟨w, hw⟩ : ∃ w, orI (orI (orI (orI (orI x.r x.s) 0) x.kp) x.at_) x.by_ = w := ⟨_, rfl⟩
    rw [hw] at e
    have hpl : x.plainB = (decide (w = 0) && decide (x.k = 1 ∧ x.chs.length ≤ 64 ∨ x.chs.length = 0)) := by
      rw [Bool.eq_iff_iff]
      simp [Stp.plainB, ownL, h, turnB, Stp.num, e, and_assoc]
      try omega
    rw [hpl]
    by_cases hz : w = 0
    · by_cases hl0 : x.chs.length = 0
      · have hl0' : (x.chs.length : Int) = 0 := by omega
        by_cases hk1 : x.k = 1 <;> simp [F_script_plain, b_script_plain, stpG, stpC, GH.newObj, hown, ownL, h, turned_ok, turnB, run_loop, L0_script_plain, gIx, v0, v1, v2, v3, vb, setPart, gOr, hlb, hub, hok, hone, hcel, hw, hz, hl0, hl0', hk1]
      · have hl0' : ¬ (x.chs.length : Int) = 0 := by omega
        have hl1 : ¬ x.chs = [] := fun e => hl0 (by rw [e]; rfl)
        by_cases hk1 : x.k = 1
        · by_cases h64 : x.chs.length ≤ 64
          · have h64' : (x.chs.length : Int) ≤ 64 := by omega
            simp [F_script_plain, b_script_plain, stpG, stpC, GH.newObj, hown, ownL, h, turned_ok, turnB, run_loop, L0_script_plain, gIx, v0, v1, v2, v3, vb, setPart, gOr, hlb, hub, hok, hone, hcel, hw, hz, hl0, hl0', hl1, hk1, h64, h64']
          · have h64' : ¬ (x.chs.length : Int) ≤ 64 := by omega
            simp [F_script_plain, b_script_plain, stpG, stpC, GH.newObj, hown, ownL, h, turned_ok, turnB, run_loop, L0_script_plain, gIx, v0, v1, v2, v3, vb, setPart, gOr, hlb, hub, hok, hone, hcel, hw, hz, hl0, hl0', hl1, hk1, h64, h64']
        · simp [F_script_plain, b_script_plain, stpG, stpC, GH.newObj, hown, ownL, h, turned_ok, turnB, run_loop, L0_script_plain, gIx, v0, v1, v2, v3, vb, setPart, gOr, hlb, hub, hok, hone, hcel, hw, hz, hl0, hl0', hl1, hk1]
    · simp [F_script_plain, b_script_plain, stpG, stpC, GH.newObj, hown, ownL, h, turned_ok, turnB, run_loop, L0_script_plain, gIx, v0, v1, v2, v3, vb, setPart, gOr, hlb, hub, hok, hone, hcel, hw, hz]
  · have e := or6 r1 r2 s1 s2 z1 z2 p1 p2 t1 t2 b3 b4
    obtain ⟨w, hw⟩ : ∃ w, orI (orI (orI (orI (orI x.r x.s) 0) x.kp) x.at_) x.by_ = w := ⟨_, rfl⟩
    rw [hw] at e
    have hpl : x.plainB = (decide (w = 0) && decide (x.k = 1 ∧ x.chs.length ≤ 64 ∨ x.chs.length = 0)) := by
      rw [Bool.eq_iff_iff]
      simp [Stp.plainB, ownL, h, turnB, Stp.num, e, and_assoc]
      try omega
    rw [hpl]
    by_cases hz : w = 0
    · by_cases hl0 : x.chs.length = 0
      · have hl0' : (x.chs.length : Int) = 0 := by omega
        by_cases hk1 : x.k = 1 <;> simp [F_script_plain, b_script_plain, stpG, stpC, GH.newObj, hown, ownL, h, turned_ok, turnB, run_loop, L0_script_plain, gIx, v0, v1, v2, v3, vb, setPart, gOr, hlb, hub, hok, hone, hcel, hw, hz, hl0, hl0', hk1]
      · have hl0' : ¬ (x.chs.length : Int) = 0 := by omega
        have hl1 : ¬ x.chs = [] := fun e => hl0 (by rw [e]; rfl)
        by_cases hk1 : x.k = 1
        · by_cases h64 : x.chs.length ≤ 64
          · have h64' : (x.chs.length : Int) ≤ 64 := by omega
            simp [F_script_plain, b_script_plain, stpG, stpC, GH.newObj, hown, ownL, h, turned_ok, turnB, run_loop, L0_script_plain, gIx, v0, v1, v2, v3, vb, setPart, gOr, hlb, hub, hok, hone, hcel, hw, hz, hl0, hl0', hl1, hk1, h64, h64']
          · have h64' : ¬ (x.chs.length : Int) ≤ 64 := by omega
            simp [F_script_plain, b_script_plain, stpG, stpC, GH.newObj, hown, ownL, h, turned_ok, turnB, run_loop, L0_script_plain, gIx, v0, v1, v2, v3, vb, setPart, gOr, hlb, hub, hok, hone, hcel, hw, hz, hl0, hl0', hl1, hk1, h64, h64']
        · simp [F_script_plain, b_script_plain, stpG, stpC, GH.newObj, hown, ownL, h, turned_ok, turnB, run_loop, L0_script_plain, gIx, v0, v1, v2, v3, vb, setPart, gOr, hlb, hub, hok, hone, hcel, hw, hz, hl0, hl0', hl1, hk1]
    · simp [F_script_plain, b_script_plain, stpG, stpC, GH.newObj, hown, ownL, h, turned_ok, turnB, run_loop, L0_script_plain, gIx, v0, v1, v2, v3, vb, setPart, gOr, hlb, hub, hok, hone, hcel, hw, hz]
  · have e := or6 r1 r2 s1 s2 z1 z2 p1 p2 t1 t2 b3 b4
    obtain ⟨w, hw⟩ : ∃ w, orI (orI (orI (orI (orI x.r x.s) 0) x.kp) x.at_) x.by_ = w := ⟨_, rfl⟩
    rw [hw] at e
    have hpl : x.plainB = (decide (w = 0) && decide (x.k = 1 ∧ x.chs.length ≤ 64 ∨ x.chs.length = 0)) := by
      rw [Bool.eq_iff_iff]
      simp [Stp.plainB, ownL, h, turnB, Stp.num, e, and_assoc]
      try omega
    rw [hpl]
    by_cases hz : w = 0
    · by_cases hl0 : x.chs.length = 0
      · have hl0' : (x.chs.length : Int) = 0 := by omega
        by_cases hk1 : x.k = 1 <;> simp [F_script_plain, b_script_plain, stpG, stpC, GH.newObj, hown, ownL, h, turned_ok, turnB, run_loop, L0_script_plain, gIx, v0, v1, v2, v3, vb, setPart, gOr, hlb, hub, hok, hone, hcel, hw, hz, hl0, hl0', hk1]
      · have hl0' : ¬ (x.chs.length : Int) = 0 := by omega
        have hl1 : ¬ x.chs = [] := fun e => hl0 (by rw [e]; rfl)
        by_cases hk1 : x.k = 1
        · by_cases h64 : x.chs.length ≤ 64
          · have h64' : (x.chs.length : Int) ≤ 64 := by omega
            simp [F_script_plain, b_script_plain, stpG, stpC, GH.newObj, hown, ownL, h, turned_ok, turnB, run_loop, L0_script_plain, gIx, v0, v1, v2, v3, vb, setPart, gOr, hlb, hub, hok, hone, hcel, hw, hz, hl0, hl0', hl1, hk1, h64, h64']
          · have h64' : ¬ (x.chs.length : Int) ≤ 64 := by omega
            simp [F_script_plain, b_script_plain, stpG, stpC, GH.newObj, hown, ownL, h, turned_ok, turnB, run_loop, L0_script_plain, gIx, v0, v1, v2, v3, vb, setPart, gOr, hlb, hub, hok, hone, hcel, hw, hz, hl0, hl0', hl1, hk1, h64, h64']
        · simp [F_script_plain, b_script_plain, stpG, stpC, GH.newObj, hown, ownL, h, turned_ok, turnB, run_loop, L0_script_plain, gIx, v0, v1, v2, v3, vb, setPart, gOr, hlb, hub, hok, hone, hcel, hw, hz, hl0, hl0', hl1, hk1]
    · simp [F_script_plain, b_script_plain, stpG, stpC, GH.newObj, hown, ownL, h, turned_ok, turnB, run_loop, L0_script_plain, gIx, v0, v1, v2, v3, vb, setPart, gOr, hlb, hub, hok, hone, hcel, hw, hz]
  · have e := or6 r1 r2 s1 s2 z1 z2 p1 p2 z1 z2 z1 z2
    obtain ⟨w, hw⟩ : ∃ w, orI (orI (orI (orI (orI x.r x.s) 0) x.kp) 0) 0 = w := ⟨_, rfl⟩
    rw [hw] at e
    have hpl : x.plainB = (decide (w = 0) && decide (x.k = 1 ∧ x.chs.length ≤ 64 ∨ x.chs.length = 0)) := by
      rw [Bool.eq_iff_iff]
      simp [Stp.plainB, ownL, h, turnB, Stp.num, e, and_assoc]
      try omega
    rw [hpl]
    by_cases hz : w = 0
    · by_cases hl0 : x.chs.length = 0
      · have hl0' : (x.chs.length : Int) = 0 := by omega
        by_cases hk1 : x.k = 1 <;> simp [F_script_plain, b_script_plain, stpG, stpC, GH.newObj, hown, ownL, h, turned_ok, turnB, run_loop, L0_script_plain, gIx, v0, v1, v2, v3, vb, setPart, gOr, hlb, hub, hok, hone, hcel, hw, hz, hl0, hl0', hk1]
      · have hl0' : ¬ (x.chs.length : Int) = 0 := by omega
        have hl1 : ¬ x.chs = [] := fun e => hl0 (by rw [e]; rfl)
        by_cases hk1 : x.k = 1
        · by_cases h64 : x.chs.length ≤ 64
          · have h64' : (x.chs.length : Int) ≤ 64 := by omega
            simp [F_script_plain, b_script_plain, stpG, stpC, GH.newObj, hown, ownL, h, turned_ok, turnB, run_loop, L0_script_plain, gIx, v0, v1, v2, v3, vb, setPart, gOr, hlb, hub, hok, hone, hcel, hw, hz, hl0, hl0', hl1, hk1, h64, h64']
          · have h64' : ¬ (x.chs.length : Int) ≤ 64 := by omega
            simp [F_script_plain, b_script_plain, stpG, stpC, GH.newObj, hown, ownL, h, turned_ok, turnB, run_loop, L0_script_plain, gIx, v0, v1, v2, v3, vb, setPart, gOr, hlb, hub, hok, hone, hcel, hw, hz, hl0, hl0', hl1, hk1, h64, h64']
        · simp [F_script_plain, b_script_plain, stpG, stpC, GH.newObj, hown, ownL, h, turned_ok, turnB, run_loop, L0_script_plain, gIx, v0, v1, v2, v3, vb, setPart, gOr, hlb, hub, hok, hone, hcel, hw, hz, hl0, hl0', hl1, hk1]
    · simp [F_script_plain, b_script_plain, stpG, stpC, GH.newObj, hown, ownL, h, turned_ok, turnB, run_loop, L0_script_plain, gIx, v0, v1, v2, v3, vb, setPart, gOr, hlb, hub, hok, hone, hcel, hw, hz]
  · have e := or6 z1 z2 s1 s2 i1 i2 z1 z2 z1 z2 z1 z2
    obtain ⟨w, hw⟩ : ∃ w, orI (orI (orI (orI (orI 0 x.s) x.i) 0) 0) 0 = w := ⟨_, rfl⟩
    rw [hw] at e
    have hpl : x.plainB = (decide (w = 0) && decide (x.k = 1 ∧ x.chs.length ≤ 64 ∨ x.chs.length = 0)) := by
      rw [Bool.eq_iff_iff]
      simp [Stp.plainB, ownL, h, turnB, Stp.num, e, and_assoc]
      try omega
    rw [hpl]
    by_cases hz : w = 0
    · by_cases hl0 : x.chs.length = 0
      · have hl0' : (x.chs.length : Int) = 0 := by omega
        by_cases hk1 : x.k = 1 <;> simp [F_script_plain, b_script_plain, stpG, stpC, GH.newObj, hown, ownL, h, turned_ok, turnB, run_loop, L0_script_plain, gIx, v0, v1, v2, v3, vb, setPart, gOr, hlb, hub, hok, hone, hcel, hw, hz, hl0, hl0', hk1]
      · have hl0' : ¬ (x.chs.length : Int) = 0 := by omega
        have hl1 : ¬ x.chs = [] := fun e => hl0 (by rw [e]; rfl)
        by_cases hk1 : x.k = 1
        · by_cases h64 : x.chs.length ≤ 64
          · have h64' : (x.chs.length : Int) ≤ 64 := by omega
            simp [F_script_plain, b_script_plain, stpG, stpC, GH.newObj, hown, ownL, h, turned_ok, turnB, run_loop, L0_script_plain, gIx, v0, v1, v2, v3, vb, setPart, gOr, hlb, hub, hok, hone, hcel, hw, hz, hl0, hl0', hl1, hk1, h64, h64']
          · have h64' : ¬ (x.chs.length : Int) ≤ 64 := by omega
            simp [F_script_plain, b_script_plain, stpG, stpC, GH.newObj, hown, ownL, h, turned_ok, turnB, run_loop, L0_script_plain, gIx, v0, v1, v2, v3, vb, setPart, gOr, hlb, hub, hok, hone, hcel, hw, hz, hl0, hl0', hl1, hk1, h64, h64']
        · simp [F_script_plain, b_script_plain, stpG, stpC, GH.newObj, hown, ownL, h, turned_ok, turnB, run_loop, L0_script_plain, gIx, v0, v1, v2, v3, vb, setPart, gOr, hlb, hub, hok, hone, hcel, hw, hz, hl0, hl0', hl1, hk1]
    · simp [F_script_plain, b_script_plain, stpG, stpC, GH.newObj, hown, ownL, h, turned_ok, turnB, run_loop, L0_script_plain, gIx, v0, v1, v2, v3, vb, setPart, gOr, hlb, hub, hok, hone, hcel, hw, hz]
  · have e := or6 z1 z2 s1 s2 i1 i2 p1 p2 z1 z2 z1 z2
    obtain ⟨w, hw⟩ : ∃ w, orI (orI (orI (orI (orI 0 x.s) x.i) x.kp) 0) 0 = w := ⟨_, rfl⟩
    rw [hw] at e
    have hpl : x.plainB = (decide (w = 0) && decide (x.k = 1 ∧ x.chs.length ≤ 64 ∨ x.chs.length = 0)) := by
      rw [Bool.eq_iff_iff]
      simp [Stp.plainB, ownL, h, turnB, Stp.num, e, and_assoc]
      try omega
    rw [hpl]
    by_cases hz : w = 0
    · by_cases hl0 : x.chs.length = 0
      · have hl0' : (x.chs.length : Int) = 0 := by omega
        by_cases hk1 : x.k = 1 <;> simp [F_script_plain, b_script_plain, stpG, stpC, GH.newObj, hown, ownL, h, turned_ok, turnB, run_loop, L0_script_plain, gIx, v0, v1, v2, v3, vb, setPart, gOr, hlb, hub, hok, hone, hcel, hw, hz, hl0, hl0', hk1]
      · have hl0' : ¬ (x.chs.length : Int) = 0 := by omega
        have hl1 : ¬ x.chs = [] := fun e => hl0 (by rw [e]; rfl)
        by_cases hk1 : x.k = 1
        · by_cases h64 : x.chs.length ≤ 64
          · have h64' : (x.chs.length : Int) ≤ 64 := by omega
            simp [F_script_plain, b_script_plain, stpG, stpC, GH.newObj, hown, ownL, h, turned_ok, turnB, run_loop, L0_script_plain, gIx, v0, v1, v2, v3, vb, setPart, gOr, hlb, hub, hok, hone, hcel, hw, hz, hl0, hl0', hl1, hk1, h64, h64']
          · have h64' : ¬ (x.chs.length : Int) ≤ 64 := by omega
            simp [F_script_plain, b_script_plain, stpG, stpC, GH.newObj, hown, ownL, h, turned_ok, turnB, run_loop, L0_script_plain, gIx, v0, v1, v2, v3, vb, setPart, gOr, hlb, hub, hok, hone, hcel, hw, hz, hl0, hl0', hl1, hk1, h64, h64']
        · simp [F_script_plain, b_script_plain, stpG, stpC, GH.newObj, hown, ownL, h, turned_ok, turnB, run_loop, L0_script_plain, gIx, v0, v1, v2, v3, vb, setPart, gOr, hlb, hub, hok, hone, hcel, hw, hz, hl0, hl0', hl1, hk1]
    · simp [F_script_plain, b_script_plain, stpG, stpC, GH.newObj, hown, ownL, h, turned_ok, turnB, run_loop, L0_script_plain, gIx, v0, v1, v2, v3, vb, setPart, gOr, hlb, hub, hok, hone, hcel, hw, hz]
  · have e := or6 z1 z2 s1 s2 i1 i2 p1 p2 t1 t2 b3 b4
    obtain ⟨w, hw⟩ : ∃ w, orI (orI (orI (orI (orI 0 x.s) x.i) x.kp) x.at_) x.by_ = w := ⟨_, rfl⟩
    rw [hw] at e
    have hpl : x.plainB = (decide (w = 0) && decide (x.k = 1 ∧ x.chs.length ≤ 64 ∨ x.chs.length = 0)) := by
      rw [Bool.eq_iff_iff]
      simp [Stp.plainB, ownL, h2, h3, h4, h5, h6, h7, h10, turnB, Stp.num, e, and_assoc]
      try omega
    rw [hpl]
    by_cases hz : w = 0
    · by_cases hl0 : x.chs.length = 0
      · have hl0' : (x.chs.length : Int) = 0 := by omega
        by_cases hk1 : x.k = 1 <;> simp [F_script_plain, b_script_plain, stpG, stpC, GH.newObj, hown, ownL, h2, h3, h4, h5, h6, h7, h10, turned_ok, turnB, run_loop, L0_script_plain, gIx, v0, v1, v2, v3, vb, setPart, gOr, hlb, hub, hok, hone, hcel, hw, hz, hl0, hl0', hk1]
      · have hl0' : ¬ (x.chs.length : Int) = 0 := by omega
        have hl1 : ¬ x.chs = [] := fun e => hl0 (by rw [e]; rfl)
        by_cases hk1 : x.k = 1
        · by_cases h64 : x.chs.length ≤ 64
          · have h64' : (x.chs.length : Int) ≤ 64 := by omega
            simp [F_script_plain, b_script_plain, stpG, stpC, GH.newObj, hown, ownL, h2, h3, h4, h5, h6, h7, h10, turned_ok, turnB, run_loop, L0_script_plain, gIx, v0, v1, v2, v3, vb, setPart, gOr, hlb, hub, hok, hone, hcel, hw, hz, hl0, hl0', hl1, hk1, h64, h64']
          · have h64' : ¬ (x.chs.length : Int) ≤ 64 := by omega
            simp [F_script_plain, b_script_plain, stpG, stpC, GH.newObj, hown, ownL, h2, h3, h4, h5, h6, h7, h10, turned_ok, turnB, run_loop, L0_script_plain, gIx, v0, v1, v2, v3, vb, setPart, gOr, hlb, hub, hok, hone, hcel, hw, hz, hl0, hl0', hl1, hk1, h64, h64']
        · simp [F_script_plain, b_script_plain, stpG, stpC, GH.newObj, hown, ownL, h2, h3, h4, h5, h6, h7, h10, turned_ok, turnB, run_loop, L0_script_plain, gIx, v0, v1, v2, v3, vb, setPart, gOr, hlb, hub, hok, hone, hcel, hw, hz, hl0, hl0', hl1, hk1]
    · simp [F_script_plain, b_script_plain, stpG, stpC, GH.newObj, hown, ownL, h2, h3, h4, h5, h6, h7, h10, turned_ok, turnB, run_loop, L0_script_plain, gIx, v0, v1, v2, v3, vb, setPart, gOr, hlb, hub, hok, hone, hcel, hw, hz]
end Go.Proofs.YtalhcaadpgadkaaDoor
