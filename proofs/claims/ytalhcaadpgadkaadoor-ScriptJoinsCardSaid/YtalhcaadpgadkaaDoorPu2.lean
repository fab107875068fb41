/- Own work, over the shadow machine: VPure2. -/
import Derived.Test.YtalhcaadpgadkaaDoorPu1
set_option linter.all false
namespace Go.Sh
open Go

def isDig (c : UInt8) : Bool := decide (48 ≤ c.toNat ∧ c.toNat ≤ 57)
def numL (acc : Nat) (l : List UInt8) : Nat := l.foldl (fun a c => a * 10 + (c.toNat - 48)) acc

theorem dig_val {u : Nat} (h : u < 10) : (UInt8.ofNat (48 + u)).toNat = 48 + u := by
  rw [UInt8.toNat_ofNat']; omega

theorem dec_num (u : Nat) : numL 0 (Lib.decDigits u) = u := by
  induction u using Nat.strongRecOn with
  | _ u ih =>
    by_cases h : u < 10
    · rw [Lib.decDigits, dif_pos h]
      simp only [numL, List.foldl_cons, List.foldl_nil, dig_val h]; omega
    · have := ih (u / 10) (by omega)
      rw [Lib.decDigits, dif_neg h]
      unfold numL at *
      rw [List.foldl_append, this]
      simp only [List.foldl_cons, List.foldl_nil, dig_val (show u % 10 < 10 by omega)]; omega

theorem dec_dig (u : Nat) : (Lib.decDigits u).all isDig = true := by
  induction u using Nat.strongRecOn with
  | _ u ih =>
    by_cases h : u < 10
    · rw [Lib.decDigits, dif_pos h]
      simp [isDig, dig_val h]; omega
    · have := ih (u / 10) (by omega)
      rw [Lib.decDigits, dif_neg h, List.all_append, this]
      simp [isDig, dig_val (show u % 10 < 10 by omega)]; omega

theorem dec_ne (u : Nat) : Lib.decDigits u ≠ [] := by
  intro h
  have := Lib.decDigits_length u
  have h2 := Lib.nDigits_pos u
  rw [h] at this; simp at this; omega

theorem nDigits_le : ∀ (k u : Nat), 1 ≤ k → u < 10 ^ k → Lib.nDigits u ≤ k
  | 0, _, h, _ => by omega
  | 1, u, _, h => by rw [Lib.nDigits_small (by simpa using h)]; exact Nat.le_refl _
  | k + 2, u, _, h => by
    by_cases hu : u < 10
    · rw [Lib.nDigits_small hu]; omega
    · rw [Lib.nDigits_big hu]
      have := nDigits_le (k + 1) (u / 10) (by omega) (by rw [Nat.pow_succ] at h; omega)
      omega

theorem num_ge : ∀ (l : List UInt8) (acc : Nat), acc ≤ numL acc l
  | [], _ => Nat.le_refl _
  | c :: l, acc => by
    have := num_ge l (acc * 10 + (c.toNat - 48))
    unfold numL at *
    simp only [List.foldl_cons]; omega

theorem parse_dig : ∀ (l : List UInt8) (acc : Nat), l.all isDig = true → numL acc l < 1844674407370955162 → Lib.parseUint10 acc l = .ok (numL acc l)
  | [], acc, _, _ => rfl
  | c :: l, acc, hd, hn => by
    simp only [List.all_cons, Bool.and_eq_true] at hd
    have hc : 48 ≤ c.toNat ∧ c.toNat ≤ 57 := by simpa [isDig] using hd.1
    have e : numL acc (c :: l) = numL (acc * 10 + (c.toNat - 48)) l := rfl
    rw [e] at hn
    have hg := num_ge l (acc * 10 + (c.toNat - 48))
    unfold Lib.parseUint10
    rw [if_pos hc, if_neg (by omega), if_neg (by omega), parse_dig l _ hd.2 hn, e]

theorem atoi_itoa (n : Int) (h1 : -1099511627776 ≤ n) (h2 : n ≤ 1099511627776) : Lib.atoiAll (Lib.itoa n) = .ok n := by
  unfold Lib.itoa
  by_cases hn : n < 0
  · rw [if_pos hn]
    have hp : Lib.parseMag (Lib.decDigits n.natAbs) = .ok n.natAbs := by
      unfold Lib.parseMag
      rw [if_neg (dec_ne _), parse_dig _ _ (dec_dig _) (by rw [dec_num]; omega), dec_num]
    unfold Lib.atoiAll
    have h45 : (45 : UInt8).toNat = 45 := rfl
    simp only [h45, or_true, if_true, hp]
    rw [if_neg (by simp), if_neg (by omega)]
    congr 1; omega
  · rw [if_neg hn]
    have hp : Lib.parseMag (Lib.decDigits n.toNat) = .ok n.toNat := by
      unfold Lib.parseMag
      rw [if_neg (dec_ne _), parse_dig _ _ (dec_dig _) (by rw [dec_num]; omega), dec_num]
    have hd := dec_dig n.toNat
    cases hl : Lib.decDigits n.toNat with
    | nil => exact absurd hl (dec_ne _)
    | cons c r =>
      rw [hl] at hp hd
      simp only [List.all_cons, Bool.and_eq_true] at hd
      have hc : 48 ≤ c.toNat ∧ c.toNat ≤ 57 := by simpa [isDig] using hd.1
      unfold Lib.atoiAll
      have e1 : ¬ (c.toNat = 43 ∨ c.toNat = 45) := by omega
      have e2 : ¬ c.toNat = 45 := by omega
      have e3 : ¬ c.toNat = 43 := by omega
      simp only [e2, e3, or_self, if_false, hp]
      rw [if_neg (by simp; omega), if_neg (by simp)]
      congr 1; omega

/-- The reference's reading of a number. -/
def numI (acc : Int) (l : List UInt8) : Int := l.foldl (fun a c => a * 10 + (c.toNat : Int) - 48) acc
def numR : List UInt8 → Int
  | [] => 0
  | c :: l => if c = 45 then - numI 0 (l.take 15) else numI 0 ((c :: l).take 15)

theorem numI_dig : ∀ (l : List UInt8) (acc : Nat), l.all isDig = true → numI acc l = numL acc l
  | [], _, _ => rfl
  | c :: l, acc, hd => by
    simp only [List.all_cons, Bool.and_eq_true] at hd
    have hc : 48 ≤ c.toNat ∧ c.toNat ≤ 57 := by simpa [isDig] using hd.1
    have := numI_dig l (acc * 10 + (c.toNat - 48)) hd.2
    unfold numI numL at *
    simp only [List.foldl_cons]
    rw [← this]
    congr 1; omega

theorem num_bound : ∀ (l : List UInt8) (acc : Int) (b : Nat), -(b : Int) ≤ acc → acc ≤ b → -((b + 30) * 10 ^ l.length : Nat) ≤ numI acc l ∧ numI acc l ≤ ((b + 30) * 10 ^ l.length : Nat)
  | [], acc, b, h1, h2 => by simp [numI]; omega
  | c :: l, acc, b, h1, h2 => by
    have hc := c.toNat_lt
    have := num_bound l (acc * 10 + (c.toNat : Int) - 48) (b * 10 + 207) (by omega) (by omega)
    have e : numI acc (c :: l) = numI (acc * 10 + (c.toNat : Int) - 48) l := rfl
    rw [e]
    have h3 : (b * 10 + 207 + 30) * 10 ^ l.length ≤ (b + 30) * 10 ^ (c :: l).length := by
      rw [List.length_cons, Nat.pow_succ, Nat.mul_comm (10 ^ l.length) 10, ← Nat.mul_assoc]
      exact Nat.mul_le_mul_right _ (by omega)
    omega

theorem numR_itoa (n : Int) (h1 : -1099511627776 ≤ n) (h2 : n ≤ 1099511627776) : numR (Lib.itoa n) = n := by
  unfold Lib.itoa
  have hlen : ∀ u : Nat, u < 10 ^ 15 → (Lib.decDigits u).take 15 = Lib.decDigits u := fun u hu => by
    rw [List.take_of_length_le]
    rw [Lib.decDigits_length]; exact nDigits_le 15 u (by omega) hu
  by_cases hn : n < 0
  · rw [if_pos hn]
    simp only [numR, if_true]
    rw [hlen _ (by omega)]
    have := numI_dig (Lib.decDigits n.natAbs) 0 (dec_dig _)
    rw [dec_num] at this
    have e : ((0 : Nat) : Int) = 0 := rfl
    rw [e] at this
    rw [this]; omega
  · rw [if_neg hn]
    have hd := dec_dig n.toNat
    have hl15 := hlen n.toNat (by omega)
    have h3 := numI_dig (Lib.decDigits n.toNat) 0 (dec_dig _)
    rw [dec_num] at h3
    cases hl : Lib.decDigits n.toNat with
    | nil => exact absurd hl (dec_ne _)
    | cons c r =>
      rw [hl] at hd hl15 h3
      simp only [List.all_cons, Bool.and_eq_true] at hd
      have hc : 48 ≤ c.toNat ∧ c.toNat ≤ 57 := by simpa [isDig] using hd.1
      have h45 : c ≠ 45 := by intro e; rw [e] at hc; revert hc; decide
      simp only [numR, if_neg h45]
      rw [hl15]
      have e : ((0 : Nat) : Int) = 0 := rfl
      rw [e] at h3
      rw [h3]; omega

/-- How the reference tells a number. -/
theorem itoa_rec (n : Int) : Lib.itoa n = if n < 0 ∧ -10 < n then [45, UInt8.ofNat (48 + n.natAbs)] else if n < 0 then Lib.itoa (n.tdiv 10) ++ [UInt8.ofNat (48 + (n.tmod 10).natAbs)] else if n < 10 then [UInt8.ofNat (48 + n.natAbs)] else Lib.itoa (n.tdiv 10) ++ [UInt8.ofNat (48 + (n.tmod 10).natAbs)] := by
  by_cases h1 : n < 0
  · by_cases h2 : -10 < n
    · rw [if_pos ⟨h1, h2⟩]
      unfold Lib.itoa
      rw [if_pos h1, Lib.decDigits, dif_pos (by omega)]
    · rw [if_neg (by omega), if_pos h1]
      have hq : n.tdiv 10 = -((n.natAbs / 10 : Nat) : Int) := by
        obtain ⟨m, rfl⟩ : ∃ m : Nat, n = -(m : Int) := ⟨n.natAbs, by omega⟩
        rw [Int.neg_tdiv]; simp
      have hr : (n.tmod 10).natAbs = n.natAbs % 10 := by rw [Int.natAbs_tmod]; rfl
      rw [hr]
      unfold Lib.itoa
      rw [if_pos h1, if_pos (by rw [hq]; omega), Lib.decDigits, dif_neg (by omega)]
      have : (n.tdiv 10).natAbs = n.natAbs / 10 := by rw [hq]; omega
      rw [this]; rfl
  · rw [if_neg (by omega), if_neg h1]
    by_cases h2 : n < 10
    · rw [if_pos h2]
      unfold Lib.itoa
      rw [if_neg h1, Lib.decDigits, dif_pos (by omega)]
      have : n.toNat = n.natAbs := by omega
      rw [this]
    · rw [if_neg h2]
      have hq : n.tdiv 10 = ((n.toNat / 10 : Nat) : Int) := by
        obtain ⟨m, rfl⟩ : ∃ m : Nat, n = (m : Int) := ⟨n.toNat, by omega⟩
        simp
      have hr : (n.tmod 10).natAbs = n.toNat % 10 := by
        rw [Int.natAbs_tmod]
        have : n.natAbs = n.toNat := by omega
        rw [this]; rfl
      rw [hr]
      unfold Lib.itoa
      rw [if_neg h1, if_neg (by rw [hq]; omega), Lib.decDigits, dif_neg (by omega)]
      have : (n.tdiv 10).toNat = n.toNat / 10 := by rw [hq]; omega
      rw [this]
end Go.Sh
