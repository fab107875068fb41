/- Own work, over the shadow machine: NumLaw. -/
import Derived.Test.YtiacgomjmijfcaaNum2
set_option linter.all false
namespace Go.Proofs.Ytiacgomjmijfcaa
open Go.Sh

/-! ## The plain law: what is taken of bytes -/

/-- A number at the beginning, and how many bytes it has. -/
def takeP : Nat → Int → List Int → Int × Int
  | _, _, [] => (0, 0)
  | i, n, c :: cs =>
    if c < 128 then (if (c = 0 ∧ 0 < i) ∨ n + c % 128 * 128 ^ i > 4611686018427387903 then (0, 0) else (n + c % 128 * 128 ^ i, (i : Int) + 1))
    else takeP (i + 1) (n + c % 128 * 128 ^ i) cs

def take (b : List Int) : Int × Int := takeP 0 0 (b.take 9)

/-- The reference's. -/
def takeR : Nat → Int → List Int → List Int → Int × Int
  | _, _, _, [] => (0, 0)
  | i, n, p, c :: cs =>
    if i = 8 ∧ 64 ≤ c then (0, 0)
    else if c < 128 then (if putB (n + c % 128 * 128 ^ i) = p ++ [c] then (n + c % 128 * 128 ^ i, (i : Int) + 1) else (0, 0))
    else takeR (i + 1) (n + c % 128 * 128 ^ i) (p ++ [c]) cs

def valB : List Int → Int
  | [] => 0
  | c :: cs => c % 128 + 128 * valB cs

theorem valB_nonneg (l : List Int) : 0 ≤ valB l := by
  induction l with
  | nil => simp [valB]
  | cons c cs ih => simp only [valB]; omega

theorem pow128_pos (n : Nat) : (0 : Int) < 128 ^ n := Int.pow_pos (by omega)
theorem pow128_succ (n : Nat) : (128 : Int) ^ (n + 1) = 128 * 128 ^ n := by rw [Int.pow_succ]; omega

theorem valB_lt (l : List Int) : valB l < 128 ^ l.length := by
  induction l with
  | nil => simp [valB]
  | cons c cs ih => simp only [valB, List.length_cons, pow128_succ]; omega

theorem valB_snoc (l : List Int) (c : Int) : valB (l ++ [c]) = valB l + c % 128 * 128 ^ l.length := by
  induction l with
  | nil => simp [valB]
  | cons d ds ih =>
    simp only [valB, List.cons_append, ih, List.length_cons, pow128_succ]
    rw [Int.mul_add, show c % 128 * (128 * 128 ^ ds.length) = 128 * (c % 128 * 128 ^ ds.length) by rw [← Int.mul_assoc, ← Int.mul_assoc, Int.mul_comm (c % 128) 128]]
    omega

/-- Bytes that are a number's are just those of the number that they tell. -/
theorem numB_valB (p : List Int) (c : Int) (hp : ∀ x ∈ p, 128 ≤ x ∧ x ≤ 255) (h0 : 0 ≤ c) (h1 : c < 128) (hc : c ≠ 0 ∨ p = []) : numB (valB (p ++ [c])) = p ++ [c] := by
  induction p with
  | nil =>
    have e : c % 128 = c := by omega
    have hle : c ≤ 127 := by omega
    simp [valB, numB, hiB, loB, e, hle]
  | cons x xs ih =>
    have hx := hp x (by simp)
    have hc0 : c ≠ 0 := by
      rcases hc with h | h
      · exact h
      · simp at h
    have ih := ih (fun y hy => hp y (by simp [hy])) (.inl hc0)
    have hpos : 1 ≤ valB (xs ++ [c]) := by
      rw [valB_snoc]
      have h2 := valB_nonneg xs
      have h3 := pow128_pos xs.length
      have e : c % 128 = c := by omega
      rw [e]
      have : 1 * 128 ^ xs.length ≤ c * 128 ^ xs.length := Int.mul_le_mul_of_nonneg_right (by omega) (by omega)
      omega
    have e1 : valB (x :: xs ++ [c]) = x % 128 + 128 * valB (xs ++ [c]) := rfl
    rw [e1, numB, hiB, loB, if_neg (by omega), if_neg (by omega)]
    have e2 : (x % 128 + 128 * valB (xs ++ [c])) / 128 = valB (xs ++ [c]) := by omega
    have e3 : (x % 128 + 128 * valB (xs ++ [c])) % 128 + 128 = x := by omega
    rw [e2, e3]
    have e4 : hiB (valB (xs ++ [c])) ++ [loB (valB (xs ++ [c]))] = xs ++ [c] := ih
    rw [List.cons_append, e4]
    rfl

theorem loB_zero {n : Int} (h0 : 0 ≤ n) (h : loB n = 0) : n = 0 := by
  fun_induction loB n with
  | case1 n hn => exact h
  | case2 n hn ih => have := ih (by omega) h; omega

theorem take_ref (cs : List Int) : ∀ (i : Nat) (n : Int) (p : List Int), isB cs → p.length = i → n = valB p → (∀ x ∈ p, 128 ≤ x ∧ x ≤ 255) → i + cs.length ≤ 9 → takeR i n p cs = takeP i n cs := by
  induction cs with
  | nil => intro i n p _ _ _ _ _; rfl
  | cons c cs ih =>
    intro i n p hb hi hn hp hl
    have hcb := hb c (by simp)
    have hv : n + c % 128 * 128 ^ i = valB (p ++ [c]) := by rw [valB_snoc, hn, hi]
    have hn0 : 0 ≤ n := by rw [hn]; exact valB_nonneg p
    have hlt : n < 128 ^ i := by rw [hn, ← hi]; exact valB_lt p
    simp only [List.length_cons] at hl
    rw [takeR, takeP]
    by_cases h8 : i = 8 ∧ 64 ≤ c
    · rw [if_pos h8]
      obtain ⟨rfl, h64⟩ := h8
      by_cases hc : c < 128
      · have e : c % 128 = c := by omega
        have hbig : n + c % 128 * 128 ^ 8 > 4611686018427387903 := by rw [e]; omega
        rw [if_pos hc, if_pos (.inr hbig)]
      · rw [if_neg hc]
        have : cs = [] := by cases cs with
          | nil => rfl
          | cons _ _ => exact absurd hl (by simp only [List.length_cons]; omega)
        subst this
        rfl
    · rw [if_neg h8]
      by_cases hc : c < 128
      · rw [if_pos hc, if_pos hc]
        have e : c % 128 = c := by omega
        have hsmall : n + c % 128 * 128 ^ i ≤ 4611686018427387903 := by
          rw [e]
          by_cases h : i = 8
          · subst h
            have : c < 64 := by omega
            omega
          · have hi7 : i ≤ 7 := by omega
            have hp7 : (128 : Int) ^ i ≤ 128 ^ 7 := by
              have : ∀ j : Fin 8, (128 : Int) ^ j.val ≤ 128 ^ 7 := by decide
              exact this ⟨i, by omega⟩
            have : c * 128 ^ i ≤ 127 * 128 ^ i := Int.mul_le_mul_of_nonneg_right (by omega) (by have := pow128_pos i; omega)
            omega
        have hnn : 0 ≤ n + c % 128 * 128 ^ i := by rw [hv]; exact valB_nonneg _
        have hput : putB (n + c % 128 * 128 ^ i) = numB (n + c % 128 * 128 ^ i) := by rw [putB, if_neg (by omega)]
        by_cases hz : c = 0 ∧ 0 < i
        · have hR : ¬ putB (n + c % 128 * 128 ^ i) = p ++ [c] := by
            intro hh
            rw [hput] at hh
            have h1 := congrArg List.getLast? hh
            simp only [numB, List.getLast?_append, List.getLast?_singleton, Option.some_or, Option.some.injEq] at h1
            have h2 := loB_zero hnn (by rw [h1]; exact hz.1)
            have h3 := congrArg List.length hh
            rw [h2] at h3
            have h4 : (numB 0).length = 1 := by simp [numB, hiB]
            rw [h4, List.length_append, List.length_singleton] at h3
            omega
          rw [if_neg hR, if_pos (.inl hz)]
        · have hR : putB (n + c % 128 * 128 ^ i) = p ++ [c] := by
            rw [hput, hv]
            refine numB_valB p c hp hcb.1 hc ?_
            by_cases h : c = 0
            · right
              have : i = 0 := by omega
              cases p with
              | nil => rfl
              | cons _ _ => simp at hi; omega
            · exact .inl h
          have hN : ¬ ((c = 0 ∧ 0 < i) ∨ n + c % 128 * 128 ^ i > 4611686018427387903) := by
            rintro (h | h)
            · exact hz h
            · omega
          rw [if_pos hR, if_neg hN]
      · rw [if_neg hc, if_neg hc]
        refine ih (i + 1) _ (p ++ [c]) (fun x hx => hb x (by simp [hx])) (by simp [hi]) hv ?_ (by omega)
        intro x hx
        rcases List.mem_append.1 hx with h | h
        · exact hp x h
        · simp at h; omega

/-- A number's bytes tell it. -/
theorem takeP_numB (k : Int) : ∀ (i : Nat) (m : Int) (rest : List Int), 0 ≤ k → (0 < k ∨ i = 0) → m + k * 128 ^ i ≤ 4611686018427387903 → takeP i m (numB k ++ rest) = (m + k * 128 ^ i, (i : Int) + (numB k).length) := by
  intro i m rest h0 hk hb
  rw [numB]
  fun_induction hiB k generalizing i m with
  | case1 k h =>
    have e : loB k = k := by rw [loB, if_pos h]
    have e2 : k % 128 = k := by omega
    simp only [List.nil_append, List.cons_append, takeP, e, e2]
    rw [if_pos (by omega), if_neg (by omega)]
    simp
  | case2 k h ih =>
    have e : loB k = loB (k / 128) := by rw [loB, if_neg h]
    have hmul : (k % 128 + 128) % 128 * 128 ^ i + k / 128 * 128 ^ (i + 1) = k * 128 ^ i := by
      rw [pow128_succ, ← Int.mul_assoc, ← Int.add_mul]
      congr 1
      omega
    simp only [List.cons_append, takeP]
    rw [if_neg (by omega), e]
    have := ih (i + 1) (m + (k % 128 + 128) % 128 * 128 ^ i) (by omega) (by omega) (by omega)
    rw [this]
    simp only [List.length_cons, Prod.mk.injEq]
    constructor
    · omega
    · simp; omega

theorem numB_len {k : Int} (h1 : k ≤ 4611686018427387903) : (numB k).length ≤ 9 := by
  have := hiB_len 8 k (by omega)
  simp [numB]; omega

theorem take_numB {k : Int} (h0 : 0 ≤ k) (h1 : k ≤ 4611686018427387903) (rest : List Int) : take (numB k ++ rest) = (k, ((numB k).length : Int)) := by
  have hl := numB_len h1
  rw [take, List.take_append, List.take_of_length_le hl, takeP_numB k 0 0 _ h0 (.inr rfl) (by simpa using h1)]
  simp

theorem numB_pos (k : Int) : 1 ≤ (numB k).length := by simp [numB]

end Go.Proofs.Ytiacgomjmijfcaa
