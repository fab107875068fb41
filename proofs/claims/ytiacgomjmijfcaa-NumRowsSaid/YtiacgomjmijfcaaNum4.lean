/- Own work, over the shadow machine: NumSpec3. -/
import Derived.Test.YtiacgomjmijfcaaNum3
set_option linter.all false
namespace Go.Proofs.Ytiacgomjmijfcaa
open Go.Sh

theorem and127u {c : Int} (h0 : 0 ≤ c) (h1 : c ≤ 255) : gInt .and .u8 c 127 = some (.int .u8 (c % 128)) := by
  obtain ⟨c, rfl⟩ := Int.eq_ofNat_of_zero_le h0
  rw [show (c : Int) % 128 = ((c % 128 : Nat) : Int) by omega, ← mask7]; exact and_u8 (b := 127) (by omega) (by decide)

theorem pow128_two (i : Nat) : (128 : Int) ^ i = 2 ^ (7 * i) := by
  rw [Int.pow_mul]; rfl

theorem pow128_le {i : Nat} (h : i ≤ 8) : (128 : Int) ^ i ≤ 72057594037927936 := by
  have : ∀ j : Fin 9, (128 : Int) ^ j.val ≤ 72057594037927936 := by decide
  exact this ⟨i, by omega⟩

theorem shl7 {c : Int} {i : Nat} (h0 : 0 ≤ c) (h1 : c < 128) (hi : i ≤ 8) : gShift .shl .u64 c (7 * (i : Int)) = some (.int .u64 (c * 128 ^ i)) := by
  simp only [gShift, IntKind.bits]
  rw [if_neg (by omega)]
  have e : min (7 * (i : Int)).toNat 64 = 7 * i := by omega
  rw [e, ← pow128_two]
  have h2 := pow128_le hi
  have h3 := pow128_pos i
  have h4 : c * 128 ^ i ≤ 127 * 128 ^ i := Int.mul_le_mul_of_nonneg_right (by omega) (by omega)
  have h5 : 0 ≤ c * 128 ^ i := Int.mul_nonneg h0 (by omega)
  rw [wrap_u64' h5 (by omega)]

theorem orShift {n c : Int} {i : Nat} (h0 : 0 ≤ c) (h1 : c < 128) (hi : i ≤ 8) (hn : 0 ≤ n) (hlt : n < 128 ^ i) : gInt .or .u64 n (c * 128 ^ i) = some (.int .u64 (n + c * 128 ^ i)) := by
  have h2 := pow128_le hi
  have h3 := pow128_pos i
  have h4 : c * 128 ^ i ≤ 127 * 128 ^ i := Int.mul_le_mul_of_nonneg_right (by omega) (by omega)
  have h5 : 0 ≤ c * 128 ^ i := Int.mul_nonneg h0 (by omega)
  obtain ⟨n, rfl⟩ := Int.eq_ofNat_of_zero_le hn
  obtain ⟨c, rfl⟩ := Int.eq_ofNat_of_zero_le h0
  have e : (c : Int) * 128 ^ i = ((2 ^ (7 * i) * c : Nat) : Int) := by
    rw [pow128_two, Int.natCast_mul, Int.natCast_pow, Int.mul_comm]; rfl
  rw [e] at h4 h5 ⊢
  rw [or_u64 (by omega) (by omega)]
  congr 2
  rw [pow128_two] at hlt
  have hlt' : n < 2 ^ (7 * i) := by
    have : ((2 ^ (7 * i) : Nat) : Int) = (2 : Int) ^ (7 * i) := by rw [Int.natCast_pow]; rfl
    omega
  have := Nat.two_pow_add_eq_or_of_lt hlt' c
  rw [Nat.or_comm, ← this]
  omega

theorem isB_tail {c : Int} {cs : List Int} (h : isB (c :: cs)) : isB cs := fun x hx => h x (by simp [hx])

theorem drop_cons {B : List Int} {i : Nat} {c : Int} {cs : List Int} (h : B.drop i = c :: cs) : B[i]? = some c ∧ i < B.length ∧ B.drop (i + 1) = cs := by
  have h1 : (B.drop i)[0]? = some c := by rw [h]; rfl
  rw [List.getElem?_drop] at h1
  refine ⟨by simpa using h1, (List.getElem?_eq_some_iff.1 h1).1, ?_⟩
  rw [← List.drop_drop, h]; rfl

set_option maxHeartbeats 4000000 in
theorem take_loop (cs : List Int) : ∀ (i : Nat) (n : Int) (B : List Int) (_ : isB B) (_ : B.length ≤ 9) (_ : B.drop i = cs) (_ : 0 ≤ n) (_ : n < 128 ^ i) (l : List GV) (g : Nat) (H : GH) (v : GV) (K : GExit × St → Prop) (_ : lget l 11 = v) (_ : Elems 1 v (u8s B)) (_ : lget l 12 = .int .i64 B.length)
    (_ : lget l 13 = .int .i64 i) (_ : lget l 4 = .int .u64 n)
    (_ : ∀ l', takeP i n cs = (0, 0) → K (.exit 0, ⟨⟨l', g⟩, H⟩))
    (_ : ∀ l', lget l' 2 = .int .i64 (takeP i n cs).1 → lget l' 3 = .int .i64 (takeP i n cs).2 → K (.ret, ⟨⟨l', g⟩, H⟩)),
    optW (erun T (.loop L0_num_take) ⟨⟨l, g⟩, H⟩) K := by
  induction cs with
  | nil =>
    intro i n B hB hl hd hn hlt l g H v K hv hE h12 h13 h4 hx hr
    have hge : ¬ ((i : Int) < B.length) := by
      have := List.drop_eq_nil_iff.1 hd; omega
    rw [run_loop]
    simp [L0_num_take, h12, h13, hge]
    exact hx _ rfl
  | cons c cs ih =>
    intro i n B hB hl hd hn hlt l g H v K hv hE h12 h13 h4 hx hr
    obtain ⟨hget, hi, hd'⟩ := drop_cons hd
    have hlti : (i : Int) < B.length := by omega
    have hc := hB c (List.mem_of_getElem? hget)
    have hm0 : 0 ≤ c % 128 := by omega
    have hm1 : c % 128 < 128 := by omega
    have hi8 : i ≤ 8 := by omega
    have p2 := pow128_le hi8
    have p3 := pow128_pos i
    have p4 : c % 128 * 128 ^ i ≤ 127 * 128 ^ i := Int.mul_le_mul_of_nonneg_right (by omega) (by omega)
    have p5 : 0 ≤ c % 128 * 128 ^ i := Int.mul_nonneg hm0 (by omega)
    have hw1 : IntKind.u64.wrap (c % 128) = c % 128 := wrap_u64' (by omega) (by omega)
    have hw2 : IntKind.i64.wrap (7 * (i : Int)) = 7 * (i : Int) := wrap_i64' (by omega) (by omega)
    have hw3 : IntKind.u64.wrap (7 * (i : Int)) = 7 * (i : Int) := wrap_u64' (by omega) (by omega)
    have hw4 : IntKind.i64.wrap ((i : Int) + 1) = (i : Int) + 1 := wrap_i64' (by omega) (by omega)
    have hw5 : n + c % 128 * 128 ^ i ≤ 4611686018427387903 → IntKind.i64.wrap (n + c % 128 * 128 ^ i) = n + c % 128 * 128 ^ i := fun h => wrap_i64' (by omega) (by omega)
    have hix : gIx B.length (.int .i64 i) = some i := by
      simp only [gIx]
      rw [if_pos (by omega)]; simp
    have hel : (u8s B)[i]? = some (.int .u8 c) := by simp [u8s, hget]
    have hsl : ∃ t, v = .sl 1 (u8s B) t := by
      generalize u8s B = xs at hE hel
      cases hE with
      | nil => simp at hel
      | sl _ t => exact ⟨t, rfl⟩
    obtain ⟨t, rfl⟩ := hsl
    rw [run_loop, wp_seqK]
    rw [takeP] at hx hr
    by_cases hlow : c < 128
    · rw [if_pos hlow] at hx hr
      by_cases hz : c = 0 ∧ 0 < i
      · have hbad : (c = 0 ∧ 0 < i) ∨ n + c % 128 * 128 ^ i > 4611686018427387903 := .inl hz
        rw [if_pos hbad] at hx hr
        have hz0 := eq_true hz.1
        have hz1 : (0 : Int) < i := by omega
        simp [L0_num_take, hv, h12, h13, h4, hlti, hix, hel, and127u hc.1 hc.2, hw1, hw2, hw3, hw4, shl7 hm0 hm1 hi8, orShift hm0 hm1 hi8 hn hlt, hlow, hz0, hz.2]
        exact hr _ (by simp) (by simp)
      · have hpk : ∀ (b : Bool), (if decide (c = 0) = true then .bool (decide ((0 : Int) < i)) else GV.bool false) = .bool (decide (c = 0 ∧ 0 < i)) := by
          intro _
          by_cases h : c = 0 <;> simp [h]
        by_cases hbig : n + c % 128 * 128 ^ i > 4611686018427387903
        · rw [if_pos (.inr hbig)] at hx hr
          have hbig' : 4611686018427387903 < n + c % 128 * 128 ^ i := hbig
          by_cases hc0 : c = 0
          · have hi0 : ¬ (0 < i) := fun h => hz ⟨hc0, h⟩
            simp [L0_num_take, hv, h12, h13, h4, hlti, hix, hel, and127u hc.1 hc.2, hw1, hw2, hw3, hw4, shl7 hm0 hm1 hi8, orShift hm0 hm1 hi8 hn hlt, hlow, eq_true hc0, hi0, hbig']
            exact hr _ (by simp) (by simp)
          · simp [L0_num_take, hv, h12, h13, h4, hlti, hix, hel, and127u hc.1 hc.2, hw1, hw2, hw3, hw4, shl7 hm0 hm1 hi8, orShift hm0 hm1 hi8 hn hlt, hlow, hc0, hbig']
            exact hr _ (by simp) (by simp)
        · have hbig' : ¬ 4611686018427387903 < n + c % 128 * 128 ^ i := hbig
          rw [if_neg (by rintro (h | h); exact hz h; exact hbig h)] at hx hr
          by_cases hc0 : c = 0
          · have hi0 : ¬ (0 < i) := fun h => hz ⟨hc0, h⟩
            simp [L0_num_take, hv, h12, h13, h4, hlti, hix, hel, and127u hc.1 hc.2, hw1, hw2, hw3, hw4, shl7 hm0 hm1 hi8, orShift hm0 hm1 hi8 hn hlt, hlow, eq_true hc0, hi0, hbig', hw5 (by omega)]
            exact hr _ (by simp) (by simp)
          · simp [L0_num_take, hv, h12, h13, h4, hlti, hix, hel, and127u hc.1 hc.2, hw1, hw2, hw3, hw4, shl7 hm0 hm1 hi8, orShift hm0 hm1 hi8 hn hlt, hlow, hc0, hbig', hw5 (by omega)]
            exact hr _ (by simp) (by simp)
    · rw [if_neg hlow] at hx hr
      simp [L0_num_take, hv, h12, h13, h4, hlti, hix, hel, and127u hc.1 hc.2, hw1, hw2, hw3, hw4, shl7 hm0 hm1 hi8, orShift hm0 hm1 hi8 hn hlt, hlow]
      refine ih (i + 1) _ B hB hl hd' (by omega) (by rw [pow128_succ]; omega) _ g H _ K (by simp [hv]) hE (by simp [h12]) (by simp) (by simp) hx hr

theorem take_bounds (cs : List Int) : ∀ (i : Nat) (n : Int), 0 ≤ n → isB cs → 0 ≤ (takeP i n cs).1 ∧ (takeP i n cs).1 ≤ 4611686018427387903 ∧ 0 ≤ (takeP i n cs).2 ∧ (takeP i n cs).2 ≤ i + cs.length ∧ ((takeP i n cs).2 = 0 → (takeP i n cs).1 = 0) := by
  induction cs with
  | nil => intro i n _ _; simp [takeP]
  | cons c cs ih =>
    intro i n hn hb
    have hc := hb c (by simp)
    have p5 : 0 ≤ c % 128 * 128 ^ i := Int.mul_nonneg (by omega) (by have := pow128_pos i; omega)
    rw [takeP]
    simp only [List.length_cons]
    split
    · split
      · simp; omega
      · rename_i h1 h2
        dsimp only
        refine ⟨by omega, by omega, by omega, by omega, by omega⟩
    · have := ih (i + 1) (n + c % 128 * 128 ^ i) (by omega) (isB_tail hb)
      omega

theorem isB_take {B : List Int} (h : isB B) (n : Nat) : isB (B.take n) := fun x hx => h x (List.mem_of_mem_take hx)
theorem isB_drop {B : List Int} (h : isB B) (n : Nat) : isB (B.drop n) := fun x hx => h x (List.mem_of_mem_drop hx)

theorem take_ok {B : List Int} (h : isB B) : 0 ≤ (take B).1 ∧ (take B).1 ≤ 4611686018427387903 ∧ 0 ≤ (take B).2 ∧ (take B).2 ≤ B.length ∧ ((take B).2 = 0 → (take B).1 = 0) := by
  have := take_bounds (B.take 9) 0 0 (by omega) (isB_take h 9)
  simp only [take]
  have h2 := List.length_take_le 9 B
  have h3 : (B.take 9).length ≤ B.length := List.length_take_le' 9 B
  omega

theorem u8s_take (n : Nat) (B : List Int) : u8s (B.take n) = (u8s B).take n := by simp [u8s, List.map_take]
theorem u8s_drop (n : Nat) (B : List Int) : u8s (B.drop n) = (u8s B).drop n := by simp [u8s, List.map_drop]

theorem take_spec {B : List Int} {v : GV} {H : GH} (hB : isB B) (hE : Elems 1 v (u8s B)) (hl : B.length ≤ 2 ^ 40) :
    ecall T f_num_take [v] H = some (.tup [.int .i64 (take B).1, .int .i64 (take B).2], H) := by
  apply optW.eq
  rw [ecall_0 T_num_take rfl (by simp [F_num_take]), wp_fin1]
  have hmin : (if (9 : Int) < B.length then (9 : Int) else B.length) = ((min 9 B.length : Nat) : Int) := by split <;> omega
  have hb : gBounds (u8s B).length false true false [GV.int .i64 ((min 9 B.length : Nat) : Int)] = some (0, min 9 B.length, none) := by
    simp only [gBounds, gBound, u8s_length]
    rw [if_pos (by omega)]; simp
  generalize hm : ((min 9 B.length : Nat) : Int) = m at hmin hb
  obtain ⟨v', hcut, hE'⟩ := hE.cut hb
  have hE2 : Elems 1 v' (u8s (B.take 9)) := by
    have : (u8s B).take (min 9 B.length) = u8s (B.take 9) := by
      rw [u8s_take]
      by_cases h : 9 ≤ B.length
      · rw [Nat.min_eq_left h]
      · rw [Nat.min_eq_right (by omega), List.take_of_length_le (by simp), List.take_of_length_le (by simp; omega)]
    simpa [this] using hE'
  simp [F_num_take, b_num_take, hE.ok, hE.len, hmin, hcut, hE2.ok, hE2.len]
  rw [wp_seqK, wp_blockK]
  refine take_loop (B.take 9) 0 0 (B.take 9) (isB_take hB 9) (List.length_take_le 9 B) rfl (by omega) (by simp) _ _ H v' _ (by simp) hE2 (by simp) (by simp) (by simp) ?_ ?_
  · intro l' h0
    have e : take B = (0, 0) := h0
    simp [e]
  · intro l' h2 h3
    simp [h2, h3, take]

end Go.Proofs.Ytiacgomjmijfcaa
