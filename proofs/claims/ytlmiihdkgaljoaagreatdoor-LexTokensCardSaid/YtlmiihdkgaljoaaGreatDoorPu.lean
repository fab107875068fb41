/- Own work: the shadow machine and what it shows, part Pu. -/
import Derived.Lib.Split
import Derived.Lib.AtoiAll
import Derived.Lib.ItoaNum
import Derived.Test.YtlmiihdkgaljoaaGreatDoorShA
set_option linter.all false

namespace Go.Sh
open Go

/-! What the value laws need of plain rows of bytes. -/

def splitL (c : UInt8) : List UInt8 → List (List UInt8)
  | [] => [[]]
  | b :: l => if b = c then [] :: splitL c l else match splitL c l with
    | [] => [[b]]
    | p :: ps => (b :: p) :: ps

theorem split_unfold_hit {s : List UInt8} {c : UInt8} {i : Nat} (h : Lib.index s [c] = i) : Lib.split s [c] = s.take i :: Lib.split (s.drop (i + 1)) [c] := by
  have hm : ¬ (Lib.index s [c] == -1) = true := fun e => by have := beq_iff_eq.1 e; omega
  have e : (Lib.index s [c]).toNat = i := by omega
  unfold Lib.split
  rw [Lib.count_hit (by simp) h, Nat.add_comm 1, Lib.splitK, if_neg hm, e]
  simp

theorem split_unfold_miss {s : List UInt8} {c : UInt8} (h : Lib.index s [c] = -1) : Lib.split s [c] = [s] := by
  unfold Lib.split
  rw [Lib.count_miss h]; rfl

theorem split_one (c : UInt8) : ∀ s : List UInt8, Lib.split s [c] = splitL c s
  | [] => by rw [split_unfold_miss (by simp [Lib.index])]; rfl
  | b :: l => by
    have ih := split_one c l
    unfold splitL
    by_cases hb : b = c
    · subst hb
      rw [if_pos rfl, split_unfold_hit (i := 0) (by simp [Lib.index, List.isPrefixOf])]
      simp [ih]
    · rw [if_neg hb]
      have hp : List.isPrefixOf [c] (b :: l) = false := by simp [List.isPrefixOf]; exact fun h => hb h.symm
      by_cases hi : Lib.index l [c] = -1
      · rw [split_unfold_miss (by simp [Lib.index, hp, hi]), ← ih, split_unfold_miss hi]
      · have hge := Lib.index_ge l [c]
        obtain ⟨i, hi'⟩ : ∃ i : Nat, Lib.index l [c] = i := ⟨(Lib.index l [c]).toNat, by omega⟩
        rw [split_unfold_hit (i := i + 1) (by simp [Lib.index, hp, hi']), ← ih, split_unfold_hit hi']
        simp

def letter (c : UInt8) : Bool := decide (97 ≤ c.toNat ∧ c.toNat ≤ 122 ∨ 65 ≤ c.toNat ∧ c.toNat ≤ 90)
def inner (c : UInt8) : Bool := letter c || decide (48 ≤ c.toNat ∧ c.toNat ≤ 57 ∨ c.toNat = 95)
def nameL (l : List UInt8) : Bool := decide (1 ≤ l.length ∧ l.length ≤ 16) && (match l with | [] => false | c :: _ => letter c) && l.all inner
def plainL (l : List UInt8) : Bool := l.all (fun c => decide (32 ≤ c.toNat ∧ c.toNat ≤ 126)) && decide (l.length ≤ 64)
def linkL (l : List UInt8) : Option (List UInt8 × List UInt8 × List UInt8) := match splitL 62 l with
  | [a, b, c] => if nameL a && nameL b && nameL c then some (a, b, c) else none
  | _ => none

/-- May a value be? -/
def rightV (k n : Int) (l : List UInt8) : Bool :=
  if k = 0 then decide (n = 0 ∧ l = [])
  else if k = 1 then decide ((n = 0 ∨ n = 1) ∧ l = [])
  else if k = 2 then decide (-1099511627776 ≤ n ∧ n ≤ 1099511627776 ∧ l = [])
  else if k = 3 then decide (n = 0) && plainL l
  else if k = 4 then decide (n = 0) && nameL l
  else if k = 5 then decide (n = 0) && (linkL l).isSome
  else false

/-- A text's bytes, with what hides a quote. -/
def quoL : List UInt8 → List UInt8
  | [] => []
  | c :: l => if c = 39 ∨ c = 92 then 92 :: c :: quoL l else c :: quoL l

def txtR (k n : Int) (l : List UInt8) : List UInt8 :=
  if k = 0 then [110, 117, 108, 108]
  else if k = 1 then if n = 1 then [116, 114, 117, 101] else [102, 97, 108, 115, 101]
  else if k = 2 then Lib.itoa n
  else if k = 3 then 39 :: (quoL l ++ [39])
  else if k = 4 then 40 :: (l ++ [41])
  else 91 :: (l ++ [93])

/-- A value's text. -/
def txtV (k n : Int) (l : List UInt8) : List UInt8 := if rightV k n l then txtR k n l else []

/-- What stands between quotes: a reading that looks at each pair. -/
def unqL : List UInt8 → List UInt8
  | [] => []
  | [c] => [c]
  | c :: d :: l => if c = 92 then d :: unqL l else c :: unqL (d :: l)

theorem unq_quo : ∀ l : List UInt8, unqL (quoL l) = l
  | [] => rfl
  | c :: l => by
    have ih := unq_quo l
    unfold quoL
    by_cases h : c = 39 ∨ c = 92
    · rw [if_pos h, unqL, if_pos rfl, ih]
    · rw [if_neg h]
      have h2 : c ≠ 92 := fun e => h (.inr e)
      cases hq : quoL l with
      | nil =>
        cases l with
        | nil => rfl
        | cons a b => simp [quoL] at hq; split at hq <;> simp at hq
      | cons d q => rw [unqL, if_neg h2, ← hq, ih]
end Go.Sh

namespace Go.Sh
open Go

def isDig (c : UInt8) : Bool := decide (48 ≤ c.toNat ∧ c.toNat ≤ 57)
def numL (acc : Nat) (l : List UInt8) : Nat := l.foldl (fun a c => a * 10 + (c.toNat - 48)) acc

theorem dig_val {u : Nat} (h : u < 10) : (UInt8.ofNat (48 + u)).toNat = 48 + u := by
  rw [UInt8.toNat_ofNat']; omega

theorem dec_num (u : Nat) : numL 0 (Lib.decDigits u) = u := by
  induction u using Nat.strongRecOn with
  | _ u ih =>
    by_cases h : u < 10
    · rw [Lib.decDigits, dif_pos h]
      simp only [numL, List.foldl_cons, List.foldl_nil, dig_val h]; omega
    · have := ih (u / 10) (by omega)
      rw [Lib.decDigits, dif_neg h]
      unfold numL at *
      rw [List.foldl_append, this]
      simp only [List.foldl_cons, List.foldl_nil, dig_val (show u % 10 < 10 by omega)]; omega

theorem dec_dig (u : Nat) : (Lib.decDigits u).all isDig = true := by
  induction u using Nat.strongRecOn with
  | _ u ih =>
    by_cases h : u < 10
    · rw [Lib.decDigits, dif_pos h]
      simp [isDig, dig_val h]; omega
    · have := ih (u / 10) (by omega)
      rw [Lib.decDigits, dif_neg h, List.all_append, this]
      simp [isDig, dig_val (show u % 10 < 10 by omega)]; omega

theorem dec_ne (u : Nat) : Lib.decDigits u ≠ [] := by
  intro h
  have := Lib.decDigits_length u
  have h2 := Lib.nDigits_pos u
  rw [h] at this; simp at this; omega

theorem nDigits_le : ∀ (k u : Nat), 1 ≤ k → u < 10 ^ k → Lib.nDigits u ≤ k
  | 0, _, h, _ => by omega
  | 1, u, _, h => by rw [Lib.nDigits_small (by simpa using h)]; exact Nat.le_refl _
  | k + 2, u, _, h => by
    by_cases hu : u < 10
    · rw [Lib.nDigits_small hu]; omega
    · rw [Lib.nDigits_big hu]
      have := nDigits_le (k + 1) (u / 10) (by omega) (by rw [Nat.pow_succ] at h; omega)
      omega

theorem num_ge : ∀ (l : List UInt8) (acc : Nat), acc ≤ numL acc l
  | [], _ => Nat.le_refl _
  | c :: l, acc => by
    have := num_ge l (acc * 10 + (c.toNat - 48))
    unfold numL at *
    simp only [List.foldl_cons]; omega

theorem parse_dig : ∀ (l : List UInt8) (acc : Nat), l.all isDig = true → numL acc l < 1844674407370955162 → Lib.parseUint10 acc l = .ok (numL acc l)
  | [], acc, _, _ => rfl
  | c :: l, acc, hd, hn => by
    simp only [List.all_cons, Bool.and_eq_true] at hd
    have hc : 48 ≤ c.toNat ∧ c.toNat ≤ 57 := by simpa [isDig] using hd.1
    have e : numL acc (c :: l) = numL (acc * 10 + (c.toNat - 48)) l := rfl
    rw [e] at hn
    have hg := num_ge l (acc * 10 + (c.toNat - 48))
    unfold Lib.parseUint10
    rw [if_pos hc, if_neg (by omega), if_neg (by omega), parse_dig l _ hd.2 hn, e]

theorem atoi_itoa (n : Int) (h1 : -1099511627776 ≤ n) (h2 : n ≤ 1099511627776) : Lib.atoiAll (Lib.itoa n) = .ok n := by
  unfold Lib.itoa
  by_cases hn : n < 0
  · rw [if_pos hn]
    have hp : Lib.parseMag (Lib.decDigits n.natAbs) = .ok n.natAbs := by
      unfold Lib.parseMag
      rw [if_neg (dec_ne _), parse_dig _ _ (dec_dig _) (by rw [dec_num]; omega), dec_num]
    unfold Lib.atoiAll
    have h45 : (45 : UInt8).toNat = 45 := rfl
    simp only [h45, or_true, if_true, hp]
    rw [if_neg (by simp), if_neg (by omega)]
    congr 1; omega
  · rw [if_neg hn]
    have hp : Lib.parseMag (Lib.decDigits n.toNat) = .ok n.toNat := by
      unfold Lib.parseMag
      rw [if_neg (dec_ne _), parse_dig _ _ (dec_dig _) (by rw [dec_num]; omega), dec_num]
    have hd := dec_dig n.toNat
    cases hl : Lib.decDigits n.toNat with
    | nil => exact absurd hl (dec_ne _)
    | cons c r =>
      rw [hl] at hp hd
      simp only [List.all_cons, Bool.and_eq_true] at hd
      have hc : 48 ≤ c.toNat ∧ c.toNat ≤ 57 := by simpa [isDig] using hd.1
      unfold Lib.atoiAll
      have e1 : ¬ (c.toNat = 43 ∨ c.toNat = 45) := by omega
      have e2 : ¬ c.toNat = 45 := by omega
      have e3 : ¬ c.toNat = 43 := by omega
      simp only [e2, e3, or_self, if_false, hp]
      rw [if_neg (by simp; omega), if_neg (by simp)]
      congr 1; omega

/-- The reference's reading of a number. -/
def numI (acc : Int) (l : List UInt8) : Int := l.foldl (fun a c => a * 10 + (c.toNat : Int) - 48) acc
def numR : List UInt8 → Int
  | [] => 0
  | c :: l => if c = 45 then - numI 0 (l.take 15) else numI 0 ((c :: l).take 15)

theorem numI_dig : ∀ (l : List UInt8) (acc : Nat), l.all isDig = true → numI acc l = numL acc l
  | [], _, _ => rfl
  | c :: l, acc, hd => by
    simp only [List.all_cons, Bool.and_eq_true] at hd
    have hc : 48 ≤ c.toNat ∧ c.toNat ≤ 57 := by simpa [isDig] using hd.1
    have := numI_dig l (acc * 10 + (c.toNat - 48)) hd.2
    unfold numI numL at *
    simp only [List.foldl_cons]
    rw [← this]
    congr 1; omega

theorem num_bound : ∀ (l : List UInt8) (acc : Int) (b : Nat), -(b : Int) ≤ acc → acc ≤ b → -((b + 30) * 10 ^ l.length : Nat) ≤ numI acc l ∧ numI acc l ≤ ((b + 30) * 10 ^ l.length : Nat)
  | [], acc, b, h1, h2 => by simp [numI]; omega
  | c :: l, acc, b, h1, h2 => by
    have hc := c.toNat_lt
    have := num_bound l (acc * 10 + (c.toNat : Int) - 48) (b * 10 + 207) (by omega) (by omega)
    have e : numI acc (c :: l) = numI (acc * 10 + (c.toNat : Int) - 48) l := rfl
    rw [e]
    have h3 : (b * 10 + 207 + 30) * 10 ^ l.length ≤ (b + 30) * 10 ^ (c :: l).length := by
      rw [List.length_cons, Nat.pow_succ, Nat.mul_comm (10 ^ l.length) 10, ← Nat.mul_assoc]
      exact Nat.mul_le_mul_right _ (by omega)
    omega

theorem numR_itoa (n : Int) (h1 : -1099511627776 ≤ n) (h2 : n ≤ 1099511627776) : numR (Lib.itoa n) = n := by
  unfold Lib.itoa
  have hlen : ∀ u : Nat, u < 10 ^ 15 → (Lib.decDigits u).take 15 = Lib.decDigits u := fun u hu => by
    rw [List.take_of_length_le]
    rw [Lib.decDigits_length]; exact nDigits_le 15 u (by omega) hu
  by_cases hn : n < 0
  · rw [if_pos hn]
    simp only [numR, if_true]
    rw [hlen _ (by omega)]
    have := numI_dig (Lib.decDigits n.natAbs) 0 (dec_dig _)
    rw [dec_num] at this
    have e : ((0 : Nat) : Int) = 0 := rfl
    rw [e] at this
    rw [this]; omega
  · rw [if_neg hn]
    have hd := dec_dig n.toNat
    have hl15 := hlen n.toNat (by omega)
    have h3 := numI_dig (Lib.decDigits n.toNat) 0 (dec_dig _)
    rw [dec_num] at h3
    cases hl : Lib.decDigits n.toNat with
    | nil => exact absurd hl (dec_ne _)
    | cons c r =>
      rw [hl] at hd hl15 h3
      simp only [List.all_cons, Bool.and_eq_true] at hd
      have hc : 48 ≤ c.toNat ∧ c.toNat ≤ 57 := by simpa [isDig] using hd.1
      have h45 : c ≠ 45 := by intro e; rw [e] at hc; revert hc; decide
      simp only [numR, if_neg h45]
      rw [hl15]
      have e : ((0 : Nat) : Int) = 0 := rfl
      rw [e] at h3
      rw [h3]; omega

/-- How the reference tells a number. -/
theorem itoa_rec (n : Int) : Lib.itoa n = if n < 0 ∧ -10 < n then [45, UInt8.ofNat (48 + n.natAbs)] else if n < 0 then Lib.itoa (n.tdiv 10) ++ [UInt8.ofNat (48 + (n.tmod 10).natAbs)] else if n < 10 then [UInt8.ofNat (48 + n.natAbs)] else Lib.itoa (n.tdiv 10) ++ [UInt8.ofNat (48 + (n.tmod 10).natAbs)] := by
  by_cases h1 : n < 0
  · by_cases h2 : -10 < n
    · rw [if_pos ⟨h1, h2⟩]
      unfold Lib.itoa
      rw [if_pos h1, Lib.decDigits, dif_pos (by omega)]
    · rw [if_neg (by omega), if_pos h1]
      have hq : n.tdiv 10 = -((n.natAbs / 10 : Nat) : Int) := by
        obtain ⟨m, rfl⟩ : ∃ m : Nat, n = -(m : Int) := ⟨n.natAbs, by omega⟩
        rw [Int.neg_tdiv]; simp
      have hr : (n.tmod 10).natAbs = n.natAbs % 10 := by rw [Int.natAbs_tmod]; rfl
      rw [hr]
      unfold Lib.itoa
      rw [if_pos h1, if_pos (by rw [hq]; omega), Lib.decDigits, dif_neg (by omega)]
      have : (n.tdiv 10).natAbs = n.natAbs / 10 := by rw [hq]; omega
      rw [this]; rfl
  · rw [if_neg (by omega), if_neg h1]
    by_cases h2 : n < 10
    · rw [if_pos h2]
      unfold Lib.itoa
      rw [if_neg h1, Lib.decDigits, dif_pos (by omega)]
      have : n.toNat = n.natAbs := by omega
      rw [this]
    · rw [if_neg h2]
      have hq : n.tdiv 10 = ((n.toNat / 10 : Nat) : Int) := by
        obtain ⟨m, rfl⟩ : ∃ m : Nat, n = (m : Int) := ⟨n.toNat, by omega⟩
        simp
      have hr : (n.tmod 10).natAbs = n.toNat % 10 := by
        rw [Int.natAbs_tmod]
        have : n.natAbs = n.toNat := by omega
        rw [this]; rfl
      rw [hr]
      unfold Lib.itoa
      rw [if_neg h1, if_neg (by rw [hq]; omega), Lib.decDigits, dif_neg (by omega)]
      have : (n.tdiv 10).toNat = n.toNat / 10 := by rw [hq]; omega
      rw [this]
end Go.Sh

namespace Go.Sh
open Go

def unq2 : List UInt8 → List UInt8
  | c :: d :: l => if c = 92 then d :: unq2 l else c :: unq2 (d :: l)
  | _ => []

theorem unq2_quo : ∀ l : List UInt8, unq2 (quoL l ++ [39]) = l
  | [] => rfl
  | c :: l => by
    have ih := unq2_quo l
    unfold quoL
    by_cases h : c = 39 ∨ c = 92
    · rw [if_pos h]
      simp only [List.cons_append]
      rw [unq2, if_pos rfl, ih]
    · rw [if_neg h]
      have h2 : c ≠ 92 := fun e => h (.inr e)
      cases hq : quoL l with
      | nil => rw [hq] at ih; simp only [List.cons_append, List.nil_append] at *; rw [unq2, if_neg h2, ih]
      | cons d q => rw [hq] at ih; simp only [List.cons_append] at *; rw [unq2, if_neg h2, ih]

/-- What stands between the first one and the last one. -/
def mid (l : List UInt8) : List UInt8 := (l.drop 1).take (l.length - 2)

theorem mid_wrap (a b : UInt8) (l : List UInt8) : mid (a :: (l ++ [b])) = l := by simp [mid]

def atoiN (l : List UInt8) : Int := numCase (Lib.atoiAll l) (fun v => v) 0 (Lib.atoiSat l)

def guessV (l : List UInt8) : Int × Int × List UInt8 :=
  if l = [116, 114, 117, 101] then (1, 1, [])
  else if l = [102, 97, 108, 115, 101] then (1, 0, [])
  else if l = [110, 117, 108, 108] ∨ l = [] then (0, 0, [])
  else if 1 < l.length ∧ l.head? = some 39 then (3, 0, unq2 (l.drop 1))
  else if 1 < l.length ∧ l.head? = some 40 then (4, 0, mid l)
  else if 1 < l.length ∧ l.head? = some 91 then (5, 0, mid l)
  else (2, atoiN l, [])

def txt3 (v : Int × Int × List UInt8) : List UInt8 := txtV v.1 v.2.1 v.2.2
def right3 (v : Int × Int × List UInt8) : Bool := rightV v.1 v.2.1 v.2.2

def parseV (l : List UInt8) : Option (Int × Int × List UInt8) := if l ≠ [] ∧ txt3 (guessV l) = l then some (guessV l) else none

def cand (l : List UInt8) : List (Int × Int × List UInt8) :=
  [(0, 0, []), (1, 0, []), (1, 1, []), (2, numR l, []), (3, 0, unqL (mid l)), (4, 0, mid l), (5, 0, mid l)]

theorem itoa_head (n : Int) : ∃ c r, Lib.itoa n = c :: r ∧ (c = 45 ∨ (48 ≤ c.toNat ∧ c.toNat ≤ 57)) := by
  unfold Lib.itoa
  by_cases hn : n < 0
  · rw [if_pos hn]; exact ⟨_, _, rfl, .inl rfl⟩
  · rw [if_neg hn]
    have hd := dec_dig n.toNat
    cases hl : Lib.decDigits n.toNat with
    | nil => exact absurd hl (dec_ne _)
    | cons c r =>
      rw [hl] at hd
      simp only [List.all_cons, Bool.and_eq_true] at hd
      exact ⟨c, r, rfl, .inr (by simpa [isDig] using hd.1)⟩

theorem guess_itoa (n : Int) (h1 : -1099511627776 ≤ n) (h2 : n ≤ 1099511627776) : guessV (Lib.itoa n) = (2, n, []) := by
  obtain ⟨c, r, e, hc⟩ := itoa_head n
  have ha : atoiN (Lib.itoa n) = n := by unfold atoiN; rw [atoi_itoa n h1 h2]
  rw [e] at ha ⊢
  have hne : ∀ x : UInt8, x.toNat ≠ 45 → ¬ (48 ≤ x.toNat ∧ x.toNat ≤ 57) → c ≠ x := by
    intro x h3 h4 e
    subst e
    rcases hc with rfl | hc
    · exact h3 rfl
    · exact h4 hc
  unfold guessV
  have a1 : c ≠ 116 := hne _ (by decide) (by decide)
  have a2 : c ≠ 102 := hne _ (by decide) (by decide)
  have a3 : c ≠ 110 := hne _ (by decide) (by decide)
  have a4 : c ≠ 39 := hne _ (by decide) (by decide)
  have a5 : c ≠ 40 := hne _ (by decide) (by decide)
  have a6 : c ≠ 91 := hne _ (by decide) (by decide)
  simp [a1, a2, a3, a4, a5, a6, ha]

/-- The kinds of a value that may be. -/
theorem right_cases {k n : Int} {l : List UInt8} (h : rightV k n l = true) :
    (k = 0 ∧ n = 0 ∧ l = []) ∨ (k = 1 ∧ n = 0 ∧ l = []) ∨ (k = 1 ∧ n = 1 ∧ l = []) ∨ (k = 2 ∧ -1099511627776 ≤ n ∧ n ≤ 1099511627776 ∧ l = []) ∨ (k = 3 ∧ n = 0) ∨ (k = 4 ∧ n = 0) ∨ (k = 5 ∧ n = 0) := by
  unfold rightV at h
  split at h
  · simp at h; simp [*]
  · split at h
    · simp at h
      rcases h with ⟨h | h, h'⟩
      · simp [*]
      · simp [*]
    · split at h
      · simp at h; simp [*]
      · split at h
        · simp at h; simp [*]
        · split at h
          · simp at h; simp [*]
          · split at h
            · simp at h; simp [*]
            · cases h

theorem guess_txt {k n : Int} {l : List UInt8} (h : rightV k n l = true) : guessV (txtR k n l) = (k, n, l) := by
  rcases right_cases h with ⟨rfl, rfl, rfl⟩ | ⟨rfl, rfl, rfl⟩ | ⟨rfl, rfl, rfl⟩ | ⟨rfl, h1, h2, rfl⟩ | ⟨rfl, rfl⟩ | ⟨rfl, rfl⟩ | ⟨rfl, rfl⟩
  · decide
  · decide
  · decide
  · exact guess_itoa n h1 h2
  · simp [txtR, guessV, unq2_quo]
  · simp [txtR, guessV, mid_wrap]
  · simp [txtR, guessV, mid_wrap]

theorem cand_txt {k n : Int} {l : List UInt8} (h : rightV k n l = true) : (k, n, l) ∈ cand (txtR k n l) := by
  rcases right_cases h with ⟨rfl, rfl, rfl⟩ | ⟨rfl, rfl, rfl⟩ | ⟨rfl, rfl, rfl⟩ | ⟨rfl, h1, h2, rfl⟩ | ⟨rfl, rfl⟩ | ⟨rfl, rfl⟩ | ⟨rfl, rfl⟩
  · simp [cand]
  · simp [cand]
  · simp [cand]
  · have : txtR 2 n [] = Lib.itoa n := rfl
    rw [this]; simp [cand, numR_itoa n h1 h2]
  · have : txtR 3 0 l = 39 :: (quoL l ++ [39]) := rfl
    rw [this]; simp [cand, mid_wrap, unq_quo]
  · have : txtR 4 0 l = 40 :: (l ++ [41]) := rfl
    rw [this]; simp [cand, mid_wrap]
  · have : txtR 5 0 l = 91 :: (l ++ [93]) := rfl
    rw [this]; simp [cand, mid_wrap]

theorem txtR_ne {k n : Int} {l : List UInt8} : txtR k n l ≠ [] := by
  unfold txtR
  split
  · simp
  · split
    · split <;> simp
    · split
      · obtain ⟨c, r, e, _⟩ := itoa_head n; rw [e]; simp
      · split
        · simp
        · split <;> simp

theorem find_cand {l : List UInt8} (hl : l ≠ []) : (cand l).find? (fun v => right3 v && (txt3 v == l)) = parseV l := by
  cases hf : (cand l).find? (fun v => right3 v && (txt3 v == l)) with
  | some v =>
    have hp := List.find?_some hf
    simp only [Bool.and_eq_true, beq_iff_eq] at hp
    obtain ⟨k, n, s⟩ := v
    have hr : rightV k n s = true := hp.1
    have ht : txtR k n s = l := by have := hp.2; simpa [txt3, txtV, hr] using this
    have hg := guess_txt hr
    rw [ht] at hg
    unfold parseV
    rw [hg, if_pos ⟨hl, hp.2⟩]
  | none =>
    unfold parseV
    rw [if_neg]
    rintro ⟨_, ht⟩
    rcases hg : guessV l with ⟨k, n, s⟩
    rw [hg] at ht
    have ht' : txtV k n s = l := ht
    have hr : rightV k n s = true := by
      cases hr : rightV k n s with
      | true => rfl
      | false => rw [txtV, hr] at ht'; simp at ht'; exact absurd ht' hl
    have h2 : txtR k n s = l := by rw [txtV, hr] at ht'; simpa using ht'
    have hm := cand_txt hr
    rw [h2] at hm
    have := List.find?_eq_none.1 hf _ hm
    simp [right3, txt3, hr, ht'] at this

/-- A value's text is read as it was, if the value may be. -/
theorem parse_txt (k n : Int) (l : List UInt8) : parseV (txtV k n l) = if rightV k n l = true then some (k, n, l) else none := by
  unfold parseV
  cases hr : rightV k n l with
  | true =>
    have hg := guess_txt hr
    have e : txtV k n l = txtR k n l := by simp [txtV, hr]
    rw [e, hg, if_pos ⟨txtR_ne, by simp [txt3, e]⟩]; rfl
  | false =>
    have e : txtV k n l = [] := by simp [txtV, hr]
    rw [e]; simp
end Go.Sh

namespace Go.Sh
open Go
set_option maxRecDepth 100000

/-! ## Tokens, as a plain law -/

def wordsL : List (List UInt8) := [[77, 65, 84, 67, 72], [79, 80, 84, 73, 79, 78, 65, 76], [87, 72, 69, 82, 69], [82, 69, 84, 85, 82, 78], [68, 73, 83, 84, 73, 78, 67, 84], [79, 82, 68, 69, 82], [66, 89], [68, 69, 83, 67], [83, 75, 73, 80], [76, 73, 77, 73, 84], [67, 82, 69, 65, 84, 69], [83, 69, 84], [82, 69, 77, 79, 86, 69], [68, 69, 76, 69, 84, 69], [65, 78, 68], [79, 82], [78, 79, 84], [73, 83], [78, 85, 76, 76], [84, 82, 85, 69], [70, 65, 76, 83, 69], [67, 79, 85, 78, 84], [83, 85, 77], [77, 73, 78], [77, 65, 88], [77, 65, 78, 89]]
def signsL : List (List UInt8) := [[40], [41], [91], [93], [58], [44], [46], [46, 46], [45], [45, 62], [60, 45], [61], [60, 62], [60], [60, 61], [62], [62, 61], [43], [42], [64]]

abbrev Tk := Int × Int × List UInt8
def tokText (k n : Int) (t : List UInt8) : List UInt8 := if k = 3 then Lib.itoa n else if k = 4 then txtV 3 0 t else t
def tokOk (k n : Int) (t : List UInt8) : Bool :=
  if k = 1 then decide (n = 0) && nameL t && !decide (t ∈ wordsL)
  else if k = 2 then decide (n = 0) && decide (t ∈ wordsL)
  else if k = 3 then decide (t = []) && decide (0 ≤ n) && decide (n ≤ 1099511627776)
  else if k = 4 then decide (n = 0) && rightV 3 0 t
  else if k = 5 then decide (n = 0) && decide (t ∈ signsL)
  else false
def tkText (v : Tk) : List UInt8 := tokText v.1 v.2.1 v.2.2
def tkOk (v : Tk) : Bool := tokOk v.1 v.2.1 v.2.2

/-! The longest sign. -/

def bstL (l b x : List UInt8) : List UInt8 := if x.isPrefixOf l = true ∧ b.length < x.length then x else b
def bestS (l : List UInt8) : List UInt8 := signsL.foldl (bstL l) []

theorem best_fold (l : List UInt8) : ∀ (S : List (List UInt8)) (b : List UInt8), (S.foldl (bstL l) b = b ∨ (S.foldl (bstL l) b ∈ S ∧ (S.foldl (bstL l) b).isPrefixOf l = true)) ∧ b.length ≤ (S.foldl (bstL l) b).length ∧ ∀ x ∈ S, x.isPrefixOf l = true → x.length ≤ (S.foldl (bstL l) b).length
  | [], b => ⟨.inl rfl, Nat.le_refl _, by simp⟩
  | x :: S, b => by
    obtain ⟨h1, h2, h3⟩ := best_fold l S (bstL l b x)
    rw [List.foldl_cons]
    have hb : b.length ≤ (bstL l b x).length := by unfold bstL; split <;> omega
    refine ⟨?_, by omega, ?_⟩
    · rcases h1 with h1 | ⟨h1, h4⟩
      · rw [h1]
        by_cases hc : x.isPrefixOf l = true ∧ b.length < x.length
        · right
          have e : bstL l b x = x := if_pos hc
          rw [e]; exact ⟨by simp, hc.1⟩
        · left
          exact if_neg hc
      · exact .inr ⟨by simp [h1], h4⟩
    · intro y hy hp
      rcases List.mem_cons.1 hy with rfl | hy
      · have : y.length ≤ (bstL l b y).length := by
          unfold bstL
          split
          · exact Nat.le_refl _
          · rename_i hc
            have : ¬ b.length < y.length := fun h => hc ⟨hp, h⟩
            omega
        omega
      · exact h3 y hy hp

theorem signs_len : signsL.all (fun x => decide (x.length = 1 ∨ x.length = 2)) = true := by decide
theorem sign_len {x : List UInt8} (h : x ∈ signsL) : x.length = 1 ∨ x.length = 2 := by
  have := List.all_eq_true.1 signs_len x h
  simpa using this
theorem words_all : wordsL.all (fun w => w.all inner && (match w with | c :: _ => letter c | [] => false)) = true := by decide
theorem signs_all : signsL.all (fun w => match w with | c :: _ => !letter c && !isDig c && !decide (c = 39) && !decide (c = 32) | [] => false) = true := by decide
theorem signs_blank : signsL.all (fun x => match x with | [_, d] => !decide (d = 32) | _ => true) = true := by decide

theorem pre_take {x l : List UInt8} (h : x.isPrefixOf l = true) : l.take x.length = x := by
  rw [List.isPrefixOf_iff_prefix] at h
  obtain ⟨r, rfl⟩ := h
  simp

theorem best_eq (l : List UInt8) : bestS l = if 1 < l.length ∧ l.take 2 ∈ signsL then l.take 2 else if 0 < l.length ∧ l.take 1 ∈ signsL then l.take 1 else [] := by
  obtain ⟨h1, _, h3⟩ := best_fold l signsL []
  have e : signsL.foldl (bstL l) [] = bestS l := rfl
  rw [e] at h1 h3
  have pre : ∀ k, (l.take k).isPrefixOf l = true := fun k => by rw [List.isPrefixOf_iff_prefix]; exact List.take_prefix k l
  by_cases c2 : 1 < l.length ∧ l.take 2 ∈ signsL
  · rw [if_pos c2]
    have hl : (l.take 2).length = 2 := by simp; omega
    have := h3 _ c2.2 (pre 2)
    rcases h1 with h1 | ⟨h1, h4⟩
    · rw [h1, hl] at this; simp at this
    · have h5 : (bestS l).length = 2 := by rcases sign_len h1 with h | h <;> omega
      have := pre_take h4
      rw [h5] at this; exact this.symm
  · rw [if_neg c2]
    by_cases c1 : 0 < l.length ∧ l.take 1 ∈ signsL
    · rw [if_pos c1]
      have hl : (l.take 1).length = 1 := by simp; omega
      have := h3 _ c1.2 (pre 1)
      rcases h1 with h1 | ⟨h1, h4⟩
      · rw [h1, hl] at this; simp at this
      · have ht := pre_take h4
        rcases sign_len h1 with h | h
        · rw [h] at ht; exact ht.symm
        · rw [h] at ht
          exact absurd ⟨by rw [← ht] at h; simp at h; omega, by rw [ht]; exact h1⟩ c2
    · rw [if_neg c1]
      rcases h1 with h1 | ⟨h1, h4⟩
      · exact h1
      · have ht := pre_take h4
        rcases sign_len h1 with h | h
        · rw [h] at ht
          exact absurd ⟨by rw [← ht] at h; simp at h; omega, by rw [ht]; exact h1⟩ c1
        · rw [h] at ht
          exact absurd ⟨by rw [← ht] at h; simp at h; omega, by rw [ht]; exact h1⟩ c2

/-! Where a text ends. -/

def scanQ : List UInt8 → Option Nat
  | [] => none
  | [c] => if c = 92 then none else if c = 39 then some 1 else none
  | c :: d :: l => if c = 92 then (scanQ l).map (· + 2) else if c = 39 then some 1 else (scanQ (d :: l)).map (· + 1)

theorem scan_quo (t r : List UInt8) : scanQ (quoL t ++ 39 :: r) = some ((quoL t).length + 1) := by
  induction t with
  | nil =>
    simp only [quoL, List.nil_append, List.length_nil]
    cases r with
    | nil => rfl
    | cons a b => simp [scanQ]
  | cons c t ih =>
    unfold quoL
    by_cases h : c = 39 ∨ c = 92
    · rw [if_pos h]
      simp only [List.cons_append, scanQ]
      rw [if_pos trivial, ih]
      simp
    · rw [if_neg h]
      have h1 : c ≠ 39 := fun e => h (.inl e)
      have h2 : c ≠ 92 := fun e => h (.inr e)
      cases hq : quoL t ++ 39 :: r with
      | nil => simp at hq
      | cons d q =>
        rw [List.cons_append, hq, scanQ, if_neg h2, if_neg h1, ← hq, ih]
        simp

theorem scan_le : ∀ (l : List UInt8) (n : Nat), scanQ l = some n → 1 ≤ n ∧ n ≤ l.length
  | [], n, h => by simp [scanQ] at h
  | [c], n, h => by
    simp only [scanQ] at h
    split at h
    · cases h
    · split at h
      · injection h with h; simp; omega
      · cases h
  | c :: d :: l, n, h => by
    simp only [scanQ] at h
    split at h
    · simp only [Option.map_eq_some_iff] at h
      obtain ⟨m, h1, rfl⟩ := h
      have := scan_le l m h1
      simp; omega
    · split at h
      · injection h with h; simp; omega
      · simp only [Option.map_eq_some_iff] at h
        obtain ⟨m, h1, rfl⟩ := h
        have := scan_le (d :: l) m h1
        simp at this ⊢; omega

/-! The token at the beginning, as the program reads it. -/

def numOf (w : List UInt8) (c : UInt8) : Option Int := match Lib.atoiAll w with
  | .ok v => if v ≤ 1099511627776 ∧ (w.length = 1 ∨ c ≠ 48) then some v else none
  | _ => none

def nextC (c : UInt8) (r : List UInt8) : Option (Tk × Nat) :=
    if letter c = true then
      (if (c :: r).takeWhile inner ∈ wordsL then some ((2, 0, (c :: r).takeWhile inner), ((c :: r).takeWhile inner).length)
       else if nameL ((c :: r).takeWhile inner) = true then some ((1, 0, (c :: r).takeWhile inner), ((c :: r).takeWhile inner).length) else none)
    else if isDig c = true then
      (match numOf ((c :: r).takeWhile isDig) c with
       | some v => some ((3, v, []), ((c :: r).takeWhile isDig).length)
       | none => none)
    else if c = 39 then
      (match scanQ r with
       | some n => (match parseV ((c :: r).take (n + 1)) with
         | some v => some ((4, 0, v.2.2), n + 1)
         | none => none)
       | none => none)
    else if bestS (c :: r) = [] then none else some ((5, 0, bestS (c :: r)), (bestS (c :: r)).length)
def nextP : List UInt8 → Option (Tk × Nat)
  | [] => none
  | c :: r => nextC c r

/-! The document's. -/

def sizeC (c : UInt8) (r : List UInt8) : Nat :=
    if isDig c = true then ((c :: r).takeWhile isDig).length
    else if letter c = true then ((c :: r).takeWhile inner).length
    else if c = 39 then (match scanQ r with | some n => n + 1 | none => 0)
    else if 1 < (c :: r).length ∧ (c :: r).take 2 ∈ signsL then 2
    else if [c] ∈ signsL then 1 else 0
def sizeR : List UInt8 → Nat
  | [] => 0
  | c :: r => sizeC c r

/-- The text that a part tells. -/
def partT (l : List UInt8) : List UInt8 := match parseV l with | some v => v.2.2 | none => []

def guessC (c : UInt8) (r : List UInt8) : Tk :=
    if isDig c = true then (3, numI 0 ((c :: r).take 15), [])
    else if c = 39 then (4, 0, partT (c :: r))
    else if c :: r ∈ wordsL then (2, 0, c :: r)
    else if c :: r ∈ signsL then (5, 0, c :: r)
    else (1, 0, c :: r)
def guessR : List UInt8 → Tk
  | [] => (1, 0, [])
  | c :: r => guessC c r

def nextR (l : List UInt8) : Option (Tk × Nat) :=
  if sizeR l = 0 then none
  else if tkOk (guessR (l.take (sizeR l))) = true ∧ tkText (guessR (l.take (sizeR l))) = l.take (sizeR l) then some (guessR (l.take (sizeR l)), sizeR l) else none

theorem parse_long : ∀ (l : List UInt8) (acc u : Nat), l.all isDig = true → Lib.parseUint10 acc l = .ok u → u = numL acc l
  | [], acc, u, _, h => by simp only [Lib.parseUint10] at h; injection h with h; exact h.symm
  | c :: l, acc, u, hd, h => by
    simp only [List.all_cons, Bool.and_eq_true] at hd
    have hc : 48 ≤ c.toNat ∧ c.toNat ≤ 57 := by simpa [isDig] using hd.1
    unfold Lib.parseUint10 at h
    rw [if_pos hc] at h
    split at h
    · cases h
    · split at h
      · cases h
      · exact parse_long l _ u hd.2 h

theorem atoi_dig {w : List UInt8} (hd : w.all isDig = true) {v : Int} (h : Lib.atoiAll w = .ok v) : v = numL 0 w := by
  cases w with
  | nil => simp [Lib.atoiAll] at h
  | cons c r =>
    have hd' := hd
    simp only [List.all_cons, Bool.and_eq_true] at hd
    have hc : 48 ≤ c.toNat ∧ c.toNat ≤ 57 := by simpa [isDig] using hd.1
    unfold Lib.atoiAll at h
    have e2 : ¬ c.toNat = 45 := by omega
    have e3 : ¬ c.toNat = 43 := by omega
    simp only [e2, e3, or_self, if_false] at h
    split at h
    · cases h
    · cases h
    · rename_i u hu
      unfold Lib.parseMag at hu
      rw [if_neg (by simp)] at hu
      have := parse_long _ _ _ hd' hu
      split at h
      · cases h
      · split at h
        · rename_i hh; exact absurd hh.1 (by simp)
        · injection h with h; rw [← h, this]

theorem numL_snoc (l : List UInt8) (c : UInt8) (a : Nat) : numL a (l ++ [c]) = numL a l * 10 + (c.toNat - 48) := by simp [numL, List.foldl_append]

theorem numL_lt : ∀ (l : List UInt8) (acc : Nat), l.all isDig = true → numL acc l < (acc + 1) * 10 ^ l.length
  | [], acc, _ => by simp [numL]
  | c :: l, acc, hd => by
    simp only [List.all_cons, Bool.and_eq_true] at hd
    have hc : 48 ≤ c.toNat ∧ c.toNat ≤ 57 := by simpa [isDig] using hd.1
    have := numL_lt l (acc * 10 + (c.toNat - 48)) hd.2
    have e : numL acc (c :: l) = numL (acc * 10 + (c.toNat - 48)) l := rfl
    rw [e, List.length_cons, Nat.pow_succ]
    have h2 : (acc * 10 + (c.toNat - 48) + 1) * 10 ^ l.length ≤ ((acc + 1) * 10) * 10 ^ l.length := Nat.mul_le_mul_right _ (by omega)
    calc _ < _ := this
      _ ≤ _ := h2
      _ = _ := by rw [Nat.mul_assoc, Nat.mul_comm 10]

theorem numL_mono : ∀ (l : List UInt8) (acc : Nat), acc * 10 ^ l.length ≤ numL acc l
  | [], acc => by simp [numL]
  | c :: l, acc => by
    have := numL_mono l (acc * 10 + (c.toNat - 48))
    have e : numL acc (c :: l) = numL (acc * 10 + (c.toNat - 48)) l := rfl
    rw [e, List.length_cons, Nat.pow_succ]
    have h2 : acc * 10 * 10 ^ l.length ≤ (acc * 10 + (c.toNat - 48)) * 10 ^ l.length := Nat.mul_le_mul_right _ (by omega)
    have e2 : acc * (10 ^ l.length * 10) = acc * 10 * 10 ^ l.length := by rw [Nat.mul_comm (10 ^ l.length), Nat.mul_assoc]
    omega

/-- Digits, the first of which is none that can be left out, are those of their number. -/
theorem dec_numL (w : List UInt8) : w.all isDig = true → w ≠ [] → (w.length = 1 ∨ w.head? ≠ some 48) → Lib.decDigits (numL 0 w) = w := by
  induction hn : w.length using Nat.strongRecOn generalizing w with
  | _ n ih =>
    intro hd hne hh
    subst hn
    obtain ⟨l, c, rfl⟩ : ∃ l c, w = l ++ [c] := ⟨w.dropLast, w.getLast hne, (List.dropLast_concat_getLast hne).symm⟩
    rw [List.all_append, Bool.and_eq_true] at hd
    have hc : 48 ≤ c.toNat ∧ c.toNat ≤ 57 := by simpa [isDig] using hd.2
    have hcv : UInt8.ofNat (48 + (c.toNat - 48)) = c := by rw [show 48 + (c.toNat - 48) = c.toNat by omega]; simp
    rw [numL_snoc]
    by_cases hl : l = []
    · subst hl
      have e : numL 0 [] = 0 := rfl
      rw [e, Lib.decDigits, dif_pos (by omega)]
      simp only [Nat.zero_mul, Nat.zero_add, List.nil_append]
      rw [hcv]
    · have hh' : (l ++ [c]).head? ≠ some 48 := by
        rcases hh with h | h
        · simp at h; exact absurd h hl
        · exact h
      obtain ⟨d, l', rfl⟩ := List.exists_cons_of_ne_nil hl
      have hd48 : d ≠ 48 := by simpa using hh'
      have ih := ih (d :: l').length (by simp) (d :: l') rfl hd.1 (by simp) (.inr (by simpa using hd48))
      have hdd : 48 ≤ d.toNat ∧ d.toNat ≤ 57 := by
        have := hd.1
        simp only [List.all_cons, Bool.and_eq_true] at this
        simpa [isDig] using this.1
      have hdn : d.toNat ≠ 48 := fun e => hd48 (UInt8.toNat_inj.1 (by rw [e]; rfl))
      have hpos : 1 ≤ numL 0 (d :: l') := by
        have e : numL 0 (d :: l') = numL (0 * 10 + (d.toNat - 48)) l' := rfl
        have := num_ge l' (0 * 10 + (d.toNat - 48))
        rw [e]; omega
      rw [Lib.decDigits, dif_neg (by omega)]
      have e1 : (numL 0 (d :: l') * 10 + (c.toNat - 48)) / 10 = numL 0 (d :: l') := by omega
      have e2 : (numL 0 (d :: l') * 10 + (c.toNat - 48)) % 10 = c.toNat - 48 := by omega
      rw [e1, e2, ih, hcv]

theorem dec_head : ∀ (u : Nat) (c : UInt8) (r : List UInt8), Lib.decDigits u = c :: r → r ≠ [] → c ≠ 48 := by
  intro u
  induction u using Nat.strongRecOn with
  | _ u ih =>
    intro c r h hr
    by_cases hu : u < 10
    · rw [Lib.decDigits, dif_pos hu] at h
      injection h with h1 h2
      exact absurd h2.symm hr
    · rw [Lib.decDigits, dif_neg hu] at h
      cases hd : Lib.decDigits (u / 10) with
      | nil => exact absurd hd (dec_ne _)
      | cons c' r' =>
        rw [hd] at h
        simp only [List.cons_append, List.cons.injEq] at h
        obtain ⟨rfl, h2⟩ := h
        by_cases hr' : r' = []
        · have hu2 : u / 10 < 10 := by
            rcases Nat.lt_or_ge (u / 10) 10 with h3 | h3
            · exact h3
            · exfalso
              have hl := Lib.decDigits_length (u / 10)
              rw [hd, hr'] at hl
              have := Lib.nDigits_pos (u / 10 / 10)
              rw [Lib.nDigits_big (by omega)] at hl
              simp at hl; omega
          rw [Lib.decDigits, dif_pos hu2] at hd
          injection hd with hd _
          intro e
          rw [e] at hd
          have := congrArg UInt8.toNat hd
          rw [dig_val hu2] at this
          have e48 : (48 : UInt8).toNat = 48 := rfl
          omega
        · exact ih (u / 10) (by omega) c' r' hd hr'

/-- A number is read as the document says. -/
theorem num_same {c : UInt8} {r : List UInt8} (hd : (c :: r).all isDig = true) : numOf (c :: r) c = if (0 ≤ numI 0 ((c :: r).take 15) ∧ numI 0 ((c :: r).take 15) ≤ 1099511627776) ∧ Lib.itoa (numI 0 ((c :: r).take 15)) = c :: r then some (numI 0 ((c :: r).take 15)) else none := by
  have hdt : ((c :: r).take 15).all isDig = true := by
    rw [List.all_eq_true] at hd ⊢
    exact fun x hx => hd x (List.mem_of_mem_take hx)
  have hI : numI 0 ((c :: r).take 15) = (numL 0 ((c :: r).take 15) : Int) := numI_dig _ 0 hdt
  rw [hI]
  by_cases hc : ((0 : Int) ≤ (numL 0 ((c :: r).take 15) : Int) ∧ (numL 0 ((c :: r).take 15) : Int) ≤ 1099511627776) ∧ Lib.itoa (numL 0 ((c :: r).take 15) : Int) = c :: r
  · rw [if_pos hc]
    have ha := atoi_itoa (numL 0 ((c :: r).take 15) : Int) (by omega) hc.1.2
    rw [hc.2] at ha
    unfold numOf
    rw [ha]
    have hh : (c :: r).length = 1 ∨ c ≠ 48 := by
      have h2 := hc.2
      unfold Lib.itoa at h2
      rw [if_neg (by omega), Int.toNat_natCast] at h2
      by_cases hr : r = []
      · left; rw [hr]; rfl
      · right; exact dec_head _ _ _ h2 hr
    show (if _ then _ else _) = _
    rw [if_pos ⟨hc.1.2, hh⟩]
  · rw [if_neg hc]
    unfold numOf
    rcases ha : Lib.atoiAll (c :: r) with v | _ | _
    rotate_left
    · rfl
    · rfl
    · show (if _ then _ else _) = _
      rw [if_neg]
      rintro ⟨h1, h2⟩
      have hv := atoi_dig hd ha
      have hhd : (c :: r).length = 1 ∨ (c :: r).head? ≠ some 48 := by
        rcases h2 with h | h
        · exact .inl h
        · right; simpa using h
      have hdec := dec_numL (c :: r) hd (by simp) hhd
      by_cases hl : (c :: r).length ≤ 15
      · have et : (c :: r).take 15 = c :: r := List.take_of_length_le hl
        rw [et] at hc
        refine hc ⟨⟨by omega, by rw [← hv]; exact h1⟩, ?_⟩
        unfold Lib.itoa
        rw [if_neg (by omega), Int.toNat_natCast]
        exact hdec
      · have hc48 : c ≠ 48 := by
          rcases h2 with h | h
          · omega
          · exact h
        have hcd : 48 ≤ c.toNat ∧ c.toNat ≤ 57 := by
          simp only [List.all_cons, Bool.and_eq_true] at hd
          simpa [isDig] using hd.1
        have hcn : c.toNat ≠ 48 := fun e => hc48 (UInt8.toNat_inj.1 (by rw [e]; rfl))
        have e : numL 0 (c :: r) = numL (0 * 10 + (c.toNat - 48)) r := rfl
        have hm := numL_mono r (0 * 10 + (c.toNat - 48))
        have hp : 10 ^ 15 ≤ 10 ^ r.length := Nat.pow_le_pow_right (by omega) (by simp at hl; omega)
        have h3 : 1 * 10 ^ r.length ≤ (0 * 10 + (c.toNat - 48)) * 10 ^ r.length := Nat.mul_le_mul_right _ (by omega)
        rw [← e] at hm
        have : (1099511627776 : Nat) < 10 ^ 15 := by decide
        omega
end Go.Sh

namespace Go.Sh
open Go
set_option maxRecDepth 100000

theorem take_while (p : UInt8 → Bool) : ∀ l : List UInt8, l.take (l.takeWhile p).length = l.takeWhile p
  | [] => rfl
  | c :: l => by
    by_cases h : p c = true
    · simp [List.takeWhile_cons, h, take_while p l]
    · simp [List.takeWhile_cons, h]

theorem while_all (p : UInt8 → Bool) : ∀ l : List UInt8, (l.takeWhile p).all p = true
  | [] => rfl
  | c :: l => by
    by_cases h : p c = true
    · simp [List.takeWhile_cons, h, while_all p l]
    · simp [List.takeWhile_cons, h]

theorem letter_dig {c : UInt8} (h : letter c = true) : isDig c = false ∧ c ≠ 39 ∧ inner c = true := by
  have h' : 97 ≤ c.toNat ∧ c.toNat ≤ 122 ∨ 65 ≤ c.toNat ∧ c.toNat ≤ 90 := by simpa [letter] using h
  refine ⟨?_, ?_, ?_⟩
  · simp [isDig]; omega
  · rintro rfl; exact absurd h (by decide)
  · simp [inner, h]

theorem sign_head {c : UInt8} {r : List UInt8} (h : c :: r ∈ signsL) : letter c = false ∧ isDig c = false ∧ c ≠ 39 ∧ c ≠ 32 := by
  have := List.all_eq_true.1 signs_all _ h
  simp only [Bool.and_eq_true, Bool.not_eq_true', decide_eq_false_iff_not] at this
  exact ⟨this.1.1.1, this.1.1.2, this.1.2, this.2⟩

theorem word_head {c : UInt8} {r : List UInt8} (h : c :: r ∈ wordsL) : letter c = true := by
  have := List.all_eq_true.1 words_all _ h
  simp only [Bool.and_eq_true] at this
  exact this.2

theorem parseV_quote {w : List UInt8} {v : Int × Int × List UInt8} {r : List UInt8} (hw : w = 39 :: r) (h : parseV w = some v) : v.1 = 3 ∧ v.2.1 = 0 ∧ rightV 3 0 v.2.2 = true ∧ txtV 3 0 v.2.2 = w := by
  unfold parseV at h
  split at h
  · rename_i hc
    injection h with h
    subst h
    have h2 := hc.2
    have hr : 0 < r.length := by
      cases r with
      | cons _ _ => simp
      | nil =>
        subst hw
        have e : guessV [39] = (2, 0, []) := by decide
        rw [e] at h2
        have e2 : txt3 (2, 0, []) = Lib.itoa 0 := rfl
        rw [e2] at h2
        obtain ⟨c, q, h3, h4⟩ := itoa_head 0
        rw [h3] at h2
        injection h2 with h2 _
        subst h2
        exact absurd h4 (by decide)
    have h1 : (guessV w).1 = 3 ∧ (guessV w).2.1 = 0 := by
      rw [hw]; unfold guessV; simp [hr]
    unfold txt3 at h2
    rw [h1.1, h1.2] at h2
    refine ⟨h1.1, h1.2, ?_, h2⟩
    cases hr : rightV 3 0 (guessV w).2.2 with
    | true => rfl
    | false =>
      unfold txtV at h2
      rw [hr] at h2
      simp at h2
      exact absurd h2 hc.1
  · cases h

theorem next_same (c : UInt8) (r : List UInt8) : nextR (c :: r) = nextP (c :: r) := by
  show nextR (c :: r) = nextC c r
  unfold nextR nextC
  have hz : sizeR (c :: r) = sizeC c r := rfl
  rw [hz]
  unfold sizeC
  by_cases hl : letter c = true
  · obtain ⟨h1, h2, h3⟩ := letter_dig hl
    have hw : (c :: r).takeWhile inner = c :: r.takeWhile inner := by rw [List.takeWhile_cons, if_pos h3]
    have ht := take_while inner (c :: r)
    have hne : ((c :: r).takeWhile inner).length ≠ 0 := by rw [hw]; simp
    rw [if_pos hl]
    simp only [h1, hl, Bool.false_eq_true, if_false, if_true]
    rw [if_neg hne, ht, hw]
    have hg : guessR (c :: r.takeWhile inner) = if c :: r.takeWhile inner ∈ wordsL then (2, 0, c :: r.takeWhile inner) else (1, 0, c :: r.takeWhile inner) := by
      show guessC c _ = _; unfold guessC
      simp only [h1, Bool.false_eq_true, if_false, h2]
      by_cases hm : c :: r.takeWhile inner ∈ wordsL
      · rw [if_pos hm, if_pos hm]
      · rw [if_neg hm, if_neg hm, if_neg]
        intro hs
        have := (sign_head hs).1
        rw [hl] at this; cases this
    rw [hg]
    by_cases hm : c :: r.takeWhile inner ∈ wordsL
    · rw [if_pos hm, if_pos hm, if_pos]
      refine ⟨?_, ?_⟩
      · simp [tkOk, tokOk, hm]
      · simp [tkText, tokText]
    · rw [if_neg hm, if_neg hm]
      by_cases hn : nameL (c :: r.takeWhile inner) = true
      · rw [if_pos hn, if_pos]
        refine ⟨?_, ?_⟩
        · simp [tkOk, tokOk, hm, hn]
        · simp [tkText, tokText]
      · rw [if_neg hn, if_neg]
        rintro ⟨h, _⟩
        simp [tkOk, tokOk] at h
        exact hn h.1
  · have hl' : letter c = false := by simpa using hl
    rw [if_neg hl]
    by_cases hd : isDig c = true
    · have hw : (c :: r).takeWhile isDig = c :: r.takeWhile isDig := by rw [List.takeWhile_cons, if_pos hd]
      have ht := take_while isDig (c :: r)
      have ha := while_all isDig (c :: r)
      have hne : ((c :: r).takeWhile isDig).length ≠ 0 := by rw [hw]; simp
      simp only [hd, hl', Bool.false_eq_true, if_false, if_true]
      rw [if_neg hne, ht]
      rw [hw] at ha ⊢
      rw [num_same ha]
      have hg : guessR (c :: r.takeWhile isDig) = (3, numI 0 ((c :: r.takeWhile isDig).take 15), []) := by
        show guessC c _ = _; unfold guessC; simp only [hd, if_true]
      rw [hg]
      generalize hN : numI 0 ((c :: r.takeWhile isDig).take 15) = N
      have e1 : tkOk (3, N, []) = decide (0 ≤ N ∧ N ≤ 1099511627776) := by
        rw [Bool.eq_iff_iff]; simp [tkOk, tokOk]
      have e2 : tkText (3, N, []) = Lib.itoa N := by simp [tkText, tokText]
      rw [e1, e2]
      by_cases hc : (0 ≤ N ∧ N ≤ 1099511627776) ∧ Lib.itoa N = c :: r.takeWhile isDig
      · rw [if_pos hc, if_pos ⟨decide_eq_true hc.1, hc.2⟩]
      · rw [if_neg hc, if_neg fun h => hc ⟨of_decide_eq_true h.1, h.2⟩]
    · have hd' : isDig c = false := by simpa using hd
      rw [if_neg hd]
      simp only [hd', hl', Bool.false_eq_true, if_false]
      by_cases hq : c = 39
      · subst hq
        simp only [if_true]
        cases hs : scanQ r with
        | none => simp
        | some n =>
          simp only
          rw [if_neg (by omega)]
          have htk : (39 :: r).take (n + 1) = 39 :: r.take n := rfl
          rw [htk]
          have hg : guessR (39 :: r.take n) = (4, 0, partT (39 :: r.take n)) := by
            show guessC 39 _ = _; unfold guessC; simp only [hd', Bool.false_eq_true, if_false, if_true]
          rw [hg]
          unfold partT
          cases hp : parseV (39 :: r.take n) with
          | some v =>
            obtain ⟨_, _, h3, h4⟩ := parseV_quote rfl hp
            rw [if_pos]
            refine ⟨?_, ?_⟩
            · simp [tkOk, tokOk, h3]
            · simp [tkText, tokText, h4]
          | none =>
            rw [if_neg]
            rintro ⟨_, h⟩
            have e : txtV 3 0 [] = 39 :: r.take n := by simpa [tkText, tokText] using h
            rw [← e, parse_txt] at hp
            rw [if_pos (by decide)] at hp
            cases hp
      · rw [if_neg hq]
        rw [best_eq (c :: r)]
        have e1 : (c :: r).take 1 = [c] := rfl
        have e0 : 0 < (c :: r).length := by simp
        have hgs : ∀ w, w ∈ signsL → (∃ w', w = c :: w') → guessR w = (5, 0, w) ∧ tkOk (5, 0, w) = true ∧ tkText (5, 0, w) = w := by
          rintro w hm ⟨w', rfl⟩
          refine ⟨?_, by simp [tkOk, tokOk, hm], by simp [tkText, tokText]⟩
          show guessC c _ = _; unfold guessC
          simp only [hd', Bool.false_eq_true, if_false, hq]
          rw [if_neg, if_pos hm]
          intro hw
          rw [word_head hw] at hl'; cases hl'
        simp only [hq, if_false]
        by_cases h2 : 1 < (c :: r).length ∧ (c :: r).take 2 ∈ signsL
        · simp only [if_pos h2]
          obtain ⟨g1, g2, g3⟩ := hgs _ h2.2 ⟨r.take 1, by simp⟩
          have hlen : ((c :: r).take 2).length = 2 := by rw [List.length_take]; omega
          rw [if_neg (by omega), g1, if_pos ⟨g2, g3⟩, if_neg (by intro e; rw [e] at hlen; simp at hlen), hlen]
        · simp only [if_neg h2, e1]
          by_cases h1 : [c] ∈ signsL
          · obtain ⟨g1, g2, g3⟩ := hgs _ h1 ⟨[], rfl⟩
            simp only [if_pos h1, e0, true_and]
            rw [if_neg (by omega), e1, g1, if_pos ⟨g2, g3⟩]
            simp
          · simp only [if_neg h1, e0, true_and]
            simp

theorem next_facts {c : UInt8} {r : List UInt8} {t : Tk} {k : Nat} (h : nextP (c :: r) = some (t, k)) : 1 ≤ k ∧ k ≤ (c :: r).length ∧ tkOk t = true ∧ tkText t = (c :: r).take k := by
  have hk : k ≤ (c :: r).length := by
    have hw : ∀ p : UInt8 → Bool, ((c :: r).takeWhile p).length ≤ (c :: r).length := fun p => (List.takeWhile_prefix p).length_le
    have h : nextC c r = some (t, k) := h
    unfold nextC at h
    split at h
    · split at h
      · injection h with h; injection h with _ h; rw [← h]; exact hw _
      · split at h
        · injection h with h; injection h with _ h; rw [← h]; exact hw _
        · cases h
    · split at h
      · split at h
        · injection h with h; injection h with _ h; rw [← h]; exact hw _
        · cases h
      · split at h
        · split at h
          · rename_i n hs
            have := scan_le _ _ hs
            split at h
            · injection h with h; injection h with _ h; rw [← h, List.length_cons]; omega
            · cases h
          · cases h
        · split at h
          · cases h
          · injection h with h; injection h with _ h
            rw [← h, best_eq]
            split
            · rw [List.length_take]; omega
            · split
              · rw [List.length_take]; omega
              · simp
  rw [← next_same] at h
  unfold nextR at h
  split at h
  · cases h
  · rename_i h0
    split at h
    · rename_i h1
      injection h with h; injection h with ht hk'
      rw [← ht, ← hk']
      exact ⟨by omega, by rw [hk']; exact hk, h1.1, h1.2⟩
    · cases h

/-! All tokens. -/

def toksP : Nat → List UInt8 → Option (List Tk)
  | 0, _ => none
  | n + 1, l => match l.dropWhile (· == 32) with
    | [] => some []
    | c :: r => match nextP (c :: r) with
      | none => none
      | some (t, k) => (toksP n ((c :: r).drop k)).map (t :: ·)

theorem drop_len (p : UInt8 → Bool) : ∀ l : List UInt8, (l.dropWhile p).length ≤ l.length
  | [] => Nat.le_refl _
  | c :: l => by
    rw [List.dropWhile_cons]
    split
    · have := drop_len p l; simp; omega
    · exact Nat.le_refl _

theorem toks_fuel : ∀ (n m : Nat) (l : List UInt8), l.length < n → l.length < m → toksP n l = toksP m l
  | 0, _, _, h, _ => by omega
  | _ + 1, 0, _, _, h => by omega
  | n + 1, m + 1, l, h1, h2 => by
    rw [toksP, toksP]
    have hl := drop_len (· == 32) l
    cases hd : l.dropWhile (· == 32) with
    | nil => rfl
    | cons c r =>
      rw [hd] at hl
      simp only
      cases hn : nextP (c :: r) with
      | none => rfl
      | some v =>
        obtain ⟨t, k⟩ := v
        obtain ⟨k1, k2, _, _⟩ := next_facts hn
        have : ((c :: r).drop k).length < n ∧ ((c :: r).drop k).length < m := by rw [List.length_drop]; omega
        simp only
        rw [toks_fuel n m _ this.1 this.2]

theorem toks_facts : ∀ (n : Nat) (l : List UInt8) (ts : List Tk), toksP n l = some ts → (∀ v ∈ ts, tkOk v = true) ∧ ts.length ≤ l.length ∧ ((ts.map tkText).map fun x => x.length + 1).sum ≤ 2 * l.length
  | 0, _, _, h => by cases h
  | n + 1, l, ts, h => by
    rw [toksP] at h
    have hl := drop_len (· == 32) l
    cases hd : l.dropWhile (· == 32) with
    | nil => rw [hd] at h; injection h with h; subst h; simp
    | cons c r =>
      rw [hd] at h hl
      simp only at h
      cases hn : nextP (c :: r) with
      | none => rw [hn] at h; cases h
      | some v =>
        obtain ⟨t, k⟩ := v
        rw [hn] at h
        simp only [Option.map_eq_some_iff] at h
        obtain ⟨ts', h1, rfl⟩ := h
        obtain ⟨k1, k2, k3, k4⟩ := next_facts hn
        obtain ⟨a, b, c'⟩ := toks_facts n _ ts' h1
        rw [List.length_drop] at b c'
        refine ⟨?_, ?_, ?_⟩
        · intro v hv
          rcases List.mem_cons.1 hv with rfl | hv
          · exact k3
          · exact a v hv
        · simp only [List.length_cons] at *; omega
        · simp only [List.map_cons, List.sum_cons, k4, List.length_take]
          omega

/-! Tokens' text, and its tokens. -/

def joinT : List Tk → List UInt8
  | [] => []
  | [v] => tkText v
  | v :: w :: l => tkText v ++ 32 :: joinT (w :: l)

theorem inner32 : inner 32 = false := by decide
theorem dig32 : isDig 32 = false := by decide

theorem take_app2 {p : UInt8 → Bool} {w r : List UInt8} (hp : p 32 = false) (hw : w.all p = true) (hr : r = [] ∨ ∃ q, r = 32 :: q) : (w ++ r).takeWhile p = w := by
  induction w with
  | nil =>
    rcases hr with rfl | ⟨q, rfl⟩
    · rfl
    · simp [List.takeWhile_cons, hp]
  | cons c w ih =>
    simp only [List.all_cons, Bool.and_eq_true] at hw
    rw [List.cons_append, List.takeWhile_cons, if_pos hw.1, ih hw.2]

theorem itoa_dec {n : Int} (h : 0 ≤ n) : Lib.itoa n = Lib.decDigits n.toNat := by
  unfold Lib.itoa; rw [if_neg (by omega)]

theorem next_tok {v : Tk} (hv : tkOk v = true) {r : List UInt8} (hr : r = [] ∨ ∃ q, r = 32 :: q) : ∃ c w, tkText v = c :: w ∧ c ≠ 32 ∧ nextP (c :: (w ++ r)) = some (v, (tkText v).length) := by
  obtain ⟨k, n, t⟩ := v
  unfold tkOk tokOk at hv
  simp only at hv
  split at hv
  · rename_i hk; subst hk
    simp only [Bool.and_eq_true, decide_eq_true_eq, Bool.not_eq_true', decide_eq_false_iff_not] at hv
    obtain ⟨⟨rfl, h1⟩, h2⟩ := hv
    have e : tkText (1, 0, t) = t := by simp [tkText, tokText]
    rw [e]
    cases t with
    | nil => exact absurd h1 (by decide)
    | cons c w =>
      have h1' := h1
      unfold nameL at h1
      simp only [Bool.and_eq_true] at h1
      refine ⟨c, w, rfl, ?_, ?_⟩
      · rintro rfl; exact absurd h1.1.2 (by decide)
      · show nextC _ _ = _; unfold nextC
        have ht : (c :: (w ++ r)).takeWhile inner = c :: w := take_app2 (w := c :: w) inner32 h1.2 hr
        rw [if_pos h1.1.2, ht, if_neg h2, if_pos h1']
  · split at hv
    · rename_i hk; subst hk
      simp only [Bool.and_eq_true, decide_eq_true_eq] at hv
      obtain ⟨rfl, h1⟩ := hv
      have e : tkText (2, 0, t) = t := by simp [tkText, tokText]
      rw [e]
      cases t with
      | nil => exact absurd h1 (by decide)
      | cons c w =>
        have hl := word_head h1
        have ha := List.all_eq_true.1 words_all _ h1
        simp only [Bool.and_eq_true] at ha
        refine ⟨c, w, rfl, ?_, ?_⟩
        · rintro rfl; exact absurd hl (by decide)
        · show nextC _ _ = _; unfold nextC
          have ht : (c :: (w ++ r)).takeWhile inner = c :: w := take_app2 (w := c :: w) inner32 ha.1 hr
          rw [if_pos hl, ht, if_pos h1]
    · split at hv
      · rename_i hk; subst hk
        simp only [Bool.and_eq_true, decide_eq_true_eq] at hv
        obtain ⟨⟨rfl, h1⟩, h2⟩ := hv
        have e : tkText (3, n, []) = Lib.itoa n := by simp [tkText, tokText]
        rw [e]
        have hi := itoa_dec h1
        have hd := dec_dig n.toNat
        have hat := atoi_itoa n (by omega) h2
        rw [← hi] at hd
        cases hw : Lib.itoa n with
        | nil => rw [hi] at hw; exact absurd hw (dec_ne _)
        | cons c w =>
          rw [hw] at hd hat
          have hd' := hd
          simp only [List.all_cons, Bool.and_eq_true] at hd'
          have hc : 48 ≤ c.toNat ∧ c.toNat ≤ 57 := by simpa [isDig] using hd'.1
          have hl : letter c = false := by
            cases hl : letter c with
            | false => rfl
            | true => have := (letter_dig hl).1; rw [hd'.1] at this; cases this
          refine ⟨c, w, rfl, ?_, ?_⟩
          · rintro rfl; exact absurd hd'.1 (by decide)
          · show nextC _ _ = _; unfold nextC
            have ht : (c :: (w ++ r)).takeWhile isDig = c :: w := take_app2 (w := c :: w) dig32 hd hr
            rw [if_neg (by rw [hl]; simp), if_pos hd'.1, ht]
            have hn : numOf (c :: w) c = some n := by
              unfold numOf
              rw [hat]
              show (if _ then _ else _) = _
              rw [if_pos]
              refine ⟨h2, ?_⟩
              by_cases hw0 : w = []
              · left; rw [hw0]; rfl
              · right; rw [hi] at hw; exact dec_head _ _ _ hw hw0
            rw [hn]
      · split at hv
        · rename_i hk; subst hk
          simp only [Bool.and_eq_true, decide_eq_true_eq] at hv
          obtain ⟨rfl, h1⟩ := hv
          have e : tkText (4, 0, t) = 39 :: (quoL t ++ [39]) := by simp [tkText, tokText, txtV, h1, txtR]
          have hp : parseV (39 :: (quoL t ++ [39])) = some (3, 0, t) := by
            have := parse_txt 3 0 t
            rw [if_pos h1] at this
            have e2 : txtV 3 0 t = 39 :: (quoL t ++ [39]) := by simp [txtV, h1, txtR]
            rw [e2] at this; exact this
          rw [e]
          refine ⟨39, quoL t ++ [39], rfl, by decide, ?_⟩
          show nextC _ _ = _; unfold nextC
          rw [if_neg (by decide), if_neg (by decide), if_pos rfl]
          have hs := scan_quo t r
          have e3 : quoL t ++ [39] ++ r = quoL t ++ 39 :: r := by simp
          rw [e3, hs]
          simp only
          have htk : (39 :: (quoL t ++ 39 :: r)).take ((quoL t).length + 1 + 1) = 39 :: (quoL t ++ [39]) := by
            rw [List.take_succ_cons, ← e3, List.take_append_of_le_length (by simp)]
            rw [List.take_of_length_le (by simp)]
          rw [htk, hp]
          simp
        · split at hv
          · rename_i hk; subst hk
            simp only [Bool.and_eq_true, decide_eq_true_eq] at hv
            obtain ⟨rfl, h1⟩ := hv
            have e : tkText (5, 0, t) = t := by simp [tkText, tokText]
            rw [e]
            cases t with
            | nil => exact absurd h1 (by decide)
            | cons c w =>
              obtain ⟨a1, a2, a3, a4⟩ := sign_head h1
              refine ⟨c, w, rfl, a4, ?_⟩
              have hb : bestS (c :: (w ++ r)) = c :: w := by
                rw [best_eq]
                rcases sign_len h1 with hl | hl
                · have hw0 : w = [] := by cases w with
                    | nil => rfl
                    | cons _ _ => simp at hl
                  subst hw0
                  rw [if_neg, if_pos]
                  · rfl
                  · exact ⟨by simp, h1⟩
                  · rintro ⟨hlen, hm⟩
                    rcases hr with rfl | ⟨q, rfl⟩
                    · simp at hlen
                    · have := List.all_eq_true.1 signs_blank _ hm
                      simp at this
                · obtain ⟨d, rfl⟩ : ∃ d, w = [d] := by
                    match w, hl with
                    | [d], _ => exact ⟨d, rfl⟩
                  rw [if_pos]
                  · rfl
                  · exact ⟨by simp, h1⟩
              show nextC _ _ = _; unfold nextC
              rw [if_neg (by rw [a1]; simp), if_neg (by rw [a2]; simp), if_neg a3, hb, if_neg (by simp)]
          · cases hv

theorem toks_join : ∀ (ts : List Tk), (∀ v ∈ ts, tkOk v = true) → ∀ n, (joinT ts).length < n → toksP n (joinT ts) = some ts
  | [], _, n, hn => by
    cases n with
    | zero => omega
    | succ n => rfl
  | [v], h, n, hn => by
    cases n with
    | zero => omega
    | succ n =>
      obtain ⟨c, w, e1, e2, e3⟩ := next_tok (h v (by simp)) (r := []) (.inl rfl)
      have ej : joinT [v] = c :: w := e1
      rw [List.append_nil] at e3
      rw [ej] at hn ⊢
      rw [toksP, List.dropWhile_cons, if_neg (by simpa using e2)]
      simp only [e3]
      have hd : (c :: w).drop (tkText v).length = [] := by rw [e1]; simp
      rw [hd]
      cases n with
      | zero => simp at hn
      | succ n => rfl
  | v :: u :: l, h, n, hn => by
    cases n with
    | zero => omega
    | succ n =>
      obtain ⟨c, w, e1, e2, e3⟩ := next_tok (h v (by simp)) (r := 32 :: joinT (u :: l)) (.inr ⟨_, rfl⟩)
      have ej : joinT (v :: u :: l) = c :: (w ++ 32 :: joinT (u :: l)) := by rw [joinT, e1]; rfl
      rw [ej] at hn ⊢
      rw [toksP, List.dropWhile_cons, if_neg (by simpa using e2)]
      simp only [e3]
      have hd : (c :: (w ++ 32 :: joinT (u :: l))).drop (tkText v).length = 32 :: joinT (u :: l) := by rw [e1]; simp
      rw [hd]
      have hlen : (joinT (u :: l)).length + 1 < n := by simp at hn; omega
      cases n with
      | zero => omega
      | succ n =>
        have : toksP (n + 1) (32 :: joinT (u :: l)) = toksP (n + 1) (joinT (u :: l)) := by
          rw [toksP, toksP, List.dropWhile_cons, if_pos (by decide)]
        rw [this, toks_join (u :: l) (fun x hx => h x (by simp [hx])) (n + 1) (by omega)]
        rfl

theorem join_len : ∀ ts : List Tk, (joinT ts).length ≤ ((ts.map tkText).map fun x => x.length + 1).sum
  | [] => by simp [joinT]
  | [v] => by simp [joinT]
  | v :: u :: l => by
    have := join_len (u :: l)
    simp only [joinT, List.length_append, List.length_cons, List.map_cons, List.sum_cons] at *
    omega
end Go.Sh
