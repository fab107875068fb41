/- Own work: the shadow machine and what it shows, part Vp. -/
import Derived.Lib.Split
import Derived.Lib.AtoiAll
import Derived.Lib.ItoaNum
import Derived.Test.YthmplnbogdfajaaGreatDoorShA
import Derived.Lib.IndexMore
import Derived.Lib.Join
set_option linter.all false

namespace Go.Sh
open Go

/-! What the value laws need of plain rows of bytes. -/

def splitL (c : UInt8) : List UInt8 → List (List UInt8)
  | [] => [[]]
  | b :: l => if b = c then [] :: splitL c l else match splitL c l with
    | [] => [[b]]
    | p :: ps => (b :: p) :: ps

theorem split_unfold_hit {s : List UInt8} {c : UInt8} {i : Nat} (h : Lib.index s [c] = i) : Lib.split s [c] = s.take i :: Lib.split (s.drop (i + 1)) [c] := by
  have hm : ¬ (Lib.index s [c] == -1) = true := fun e => by have := beq_iff_eq.1 e; omega
  have e : (Lib.index s [c]).toNat = i := by omega
  unfold Lib.split
  rw [Lib.count_hit (by simp) h, Nat.add_comm 1, Lib.splitK, if_neg hm, e]
  simp

theorem split_unfold_miss {s : List UInt8} {c : UInt8} (h : Lib.index s [c] = -1) : Lib.split s [c] = [s] := by
  unfold Lib.split
  rw [Lib.count_miss h]; rfl

theorem split_one (c : UInt8) : ∀ s : List UInt8, Lib.split s [c] = splitL c s
  | [] => by rw [split_unfold_miss (by simp [Lib.index])]; rfl
  | b :: l => by
    have ih := split_one c l
    unfold splitL
    by_cases hb : b = c
    · subst hb
      rw [if_pos rfl, split_unfold_hit (i := 0) (by simp [Lib.index, List.isPrefixOf])]
      simp [ih]
    · rw [if_neg hb]
      have hp : List.isPrefixOf [c] (b :: l) = false := by simp [List.isPrefixOf]; exact fun h => hb h.symm
      by_cases hi : Lib.index l [c] = -1
      · rw [split_unfold_miss (by simp [Lib.index, hp, hi]), ← ih, split_unfold_miss hi]
      · have hge := Lib.index_ge l [c]
        obtain ⟨i, hi'⟩ : ∃ i : Nat, Lib.index l [c] = i := ⟨(Lib.index l [c]).toNat, by omega⟩
        rw [split_unfold_hit (i := i + 1) (by simp [Lib.index, hp, hi']), ← ih, split_unfold_hit hi']
        simp

def letter (c : UInt8) : Bool := decide (97 ≤ c.toNat ∧ c.toNat ≤ 122 ∨ 65 ≤ c.toNat ∧ c.toNat ≤ 90)
def inner (c : UInt8) : Bool := letter c || decide (48 ≤ c.toNat ∧ c.toNat ≤ 57 ∨ c.toNat = 95)
def nameL (l : List UInt8) : Bool := decide (1 ≤ l.length ∧ l.length ≤ 16) && (match l with | [] => false | c :: _ => letter c) && l.all inner
def plainL (l : List UInt8) : Bool := l.all (fun c => decide (32 ≤ c.toNat ∧ c.toNat ≤ 126)) && decide (l.length ≤ 64)
def linkL (l : List UInt8) : Option (List UInt8 × List UInt8 × List UInt8) := match splitL 62 l with
  | [a, b, c] => if nameL a && nameL b && nameL c then some (a, b, c) else none
  | _ => none

/-- May a value be? -/
def rightV (k n : Int) (l : List UInt8) : Bool :=
  if k = 0 then decide (n = 0 ∧ l = [])
  else if k = 1 then decide ((n = 0 ∨ n = 1) ∧ l = [])
  else if k = 2 then decide (-1099511627776 ≤ n ∧ n ≤ 1099511627776 ∧ l = [])
  else if k = 3 then decide (n = 0) && plainL l
  else if k = 4 then decide (n = 0) && nameL l
  else if k = 5 then decide (n = 0) && (linkL l).isSome
  else false

/-- A text's bytes, with what hides a quote. -/
def quoL : List UInt8 → List UInt8
  | [] => []
  | c :: l => if c = 39 ∨ c = 92 then 92 :: c :: quoL l else c :: quoL l

def txtR (k n : Int) (l : List UInt8) : List UInt8 :=
  if k = 0 then [110, 117, 108, 108]
  else if k = 1 then if n = 1 then [116, 114, 117, 101] else [102, 97, 108, 115, 101]
  else if k = 2 then Lib.itoa n
  else if k = 3 then 39 :: (quoL l ++ [39])
  else if k = 4 then 40 :: (l ++ [41])
  else 91 :: (l ++ [93])

/-- A value's text. -/
def txtV (k n : Int) (l : List UInt8) : List UInt8 := if rightV k n l then txtR k n l else []

/-- What stands between quotes: a reading that looks at each pair. -/
def unqL : List UInt8 → List UInt8
  | [] => []
  | [c] => [c]
  | c :: d :: l => if c = 92 then d :: unqL l else c :: unqL (d :: l)

theorem unq_quo : ∀ l : List UInt8, unqL (quoL l) = l
  | [] => rfl
  | c :: l => by
    have ih := unq_quo l
    unfold quoL
    by_cases h : c = 39 ∨ c = 92
    · rw [if_pos h, unqL, if_pos rfl, ih]
    · rw [if_neg h]
      have h2 : c ≠ 92 := fun e => h (.inr e)
      cases hq : quoL l with
      | nil =>
        cases l with
        | nil => rfl
        | cons a b => simp [quoL] at hq; split at hq <;> simp at hq
      | cons d q => rw [unqL, if_neg h2, ← hq, ih]
end Go.Sh

namespace Go.Sh
open Go

def isDig (c : UInt8) : Bool := decide (48 ≤ c.toNat ∧ c.toNat ≤ 57)
def numL (acc : Nat) (l : List UInt8) : Nat := l.foldl (fun a c => a * 10 + (c.toNat - 48)) acc

theorem dig_val {u : Nat} (h : u < 10) : (UInt8.ofNat (48 + u)).toNat = 48 + u := by
  rw [UInt8.toNat_ofNat']; omega

theorem dec_num (u : Nat) : numL 0 (Lib.decDigits u) = u := by
  induction u using Nat.strongRecOn with
  | _ u ih =>
    by_cases h : u < 10
    · rw [Lib.decDigits, dif_pos h]
      simp only [numL, List.foldl_cons, List.foldl_nil, dig_val h]; omega
    · have := ih (u / 10) (by omega)
      rw [Lib.decDigits, dif_neg h]
      unfold numL at *
      rw [List.foldl_append, this]
      simp only [List.foldl_cons, List.foldl_nil, dig_val (show u % 10 < 10 by omega)]; omega

theorem dec_dig (u : Nat) : (Lib.decDigits u).all isDig = true := by
  induction u using Nat.strongRecOn with
  | _ u ih =>
    by_cases h : u < 10
    · rw [Lib.decDigits, dif_pos h]
      simp [isDig, dig_val h]; omega
    · have := ih (u / 10) (by omega)
      rw [Lib.decDigits, dif_neg h, List.all_append, this]
      simp [isDig, dig_val (show u % 10 < 10 by omega)]; omega

theorem dec_ne (u : Nat) : Lib.decDigits u ≠ [] := by
  intro h
  have := Lib.decDigits_length u
  have h2 := Lib.nDigits_pos u
  rw [h] at this; simp at this; omega

theorem nDigits_le : ∀ (k u : Nat), 1 ≤ k → u < 10 ^ k → Lib.nDigits u ≤ k
  | 0, _, h, _ => by omega
  | 1, u, _, h => by rw [Lib.nDigits_small (by simpa using h)]; exact Nat.le_refl _
  | k + 2, u, _, h => by
    by_cases hu : u < 10
    · rw [Lib.nDigits_small hu]; omega
    · rw [Lib.nDigits_big hu]
      have := nDigits_le (k + 1) (u / 10) (by omega) (by rw [Nat.pow_succ] at h; omega)
      omega

theorem num_ge : ∀ (l : List UInt8) (acc : Nat), acc ≤ numL acc l
  | [], _ => Nat.le_refl _
  | c :: l, acc => by
    have := num_ge l (acc * 10 + (c.toNat - 48))
    unfold numL at *
    simp only [List.foldl_cons]; omega

theorem parse_dig : ∀ (l : List UInt8) (acc : Nat), l.all isDig = true → numL acc l < 1844674407370955162 → Lib.parseUint10 acc l = .ok (numL acc l)
  | [], acc, _, _ => rfl
  | c :: l, acc, hd, hn => by
    simp only [List.all_cons, Bool.and_eq_true] at hd
    have hc : 48 ≤ c.toNat ∧ c.toNat ≤ 57 := by simpa [isDig] using hd.1
    have e : numL acc (c :: l) = numL (acc * 10 + (c.toNat - 48)) l := rfl
    rw [e] at hn
    have hg := num_ge l (acc * 10 + (c.toNat - 48))
    unfold Lib.parseUint10
    rw [if_pos hc, if_neg (by omega), if_neg (by omega), parse_dig l _ hd.2 hn, e]

theorem atoi_itoa (n : Int) (h1 : -1099511627776 ≤ n) (h2 : n ≤ 1099511627776) : Lib.atoiAll (Lib.itoa n) = .ok n := by
  unfold Lib.itoa
  by_cases hn : n < 0
  · rw [if_pos hn]
    have hp : Lib.parseMag (Lib.decDigits n.natAbs) = .ok n.natAbs := by
      unfold Lib.parseMag
      rw [if_neg (dec_ne _), parse_dig _ _ (dec_dig _) (by rw [dec_num]; omega), dec_num]
    unfold Lib.atoiAll
    have h45 : (45 : UInt8).toNat = 45 := rfl
    simp only [h45, or_true, if_true, hp]
    rw [if_neg (by simp), if_neg (by omega)]
    congr 1; omega
  · rw [if_neg hn]
    have hp : Lib.parseMag (Lib.decDigits n.toNat) = .ok n.toNat := by
      unfold Lib.parseMag
      rw [if_neg (dec_ne _), parse_dig _ _ (dec_dig _) (by rw [dec_num]; omega), dec_num]
    have hd := dec_dig n.toNat
    cases hl : Lib.decDigits n.toNat with
    | nil => exact absurd hl (dec_ne _)
    | cons c r =>
      rw [hl] at hp hd
      simp only [List.all_cons, Bool.and_eq_true] at hd
      have hc : 48 ≤ c.toNat ∧ c.toNat ≤ 57 := by simpa [isDig] using hd.1
      unfold Lib.atoiAll
      have e1 : ¬ (c.toNat = 43 ∨ c.toNat = 45) := by omega
      have e2 : ¬ c.toNat = 45 := by omega
      have e3 : ¬ c.toNat = 43 := by omega
      simp only [e2, e3, or_self, if_false, hp]
      rw [if_neg (by simp; omega), if_neg (by simp)]
      congr 1; omega

/-- The reference's reading of a number. -/
def numI (acc : Int) (l : List UInt8) : Int := l.foldl (fun a c => a * 10 + (c.toNat : Int) - 48) acc
def numR : List UInt8 → Int
  | [] => 0
  | c :: l => if c = 45 then - numI 0 (l.take 15) else numI 0 ((c :: l).take 15)

theorem numI_dig : ∀ (l : List UInt8) (acc : Nat), l.all isDig = true → numI acc l = numL acc l
  | [], _, _ => rfl
  | c :: l, acc, hd => by
    simp only [List.all_cons, Bool.and_eq_true] at hd
    have hc : 48 ≤ c.toNat ∧ c.toNat ≤ 57 := by simpa [isDig] using hd.1
    have := numI_dig l (acc * 10 + (c.toNat - 48)) hd.2
    unfold numI numL at *
    simp only [List.foldl_cons]
    rw [← this]
    congr 1; omega

theorem num_bound : ∀ (l : List UInt8) (acc : Int) (b : Nat), -(b : Int) ≤ acc → acc ≤ b → -((b + 30) * 10 ^ l.length : Nat) ≤ numI acc l ∧ numI acc l ≤ ((b + 30) * 10 ^ l.length : Nat)
  | [], acc, b, h1, h2 => by simp [numI]; omega
  | c :: l, acc, b, h1, h2 => by
    have hc := c.toNat_lt
    have := num_bound l (acc * 10 + (c.toNat : Int) - 48) (b * 10 + 207) (by omega) (by omega)
    have e : numI acc (c :: l) = numI (acc * 10 + (c.toNat : Int) - 48) l := rfl
    rw [e]
    have h3 : (b * 10 + 207 + 30) * 10 ^ l.length ≤ (b + 30) * 10 ^ (c :: l).length := by
      rw [List.length_cons, Nat.pow_succ, Nat.mul_comm (10 ^ l.length) 10, ← Nat.mul_assoc]
      exact Nat.mul_le_mul_right _ (by omega)
    omega

theorem numR_itoa (n : Int) (h1 : -1099511627776 ≤ n) (h2 : n ≤ 1099511627776) : numR (Lib.itoa n) = n := by
  unfold Lib.itoa
  have hlen : ∀ u : Nat, u < 10 ^ 15 → (Lib.decDigits u).take 15 = Lib.decDigits u := fun u hu => by
    rw [List.take_of_length_le]
    rw [Lib.decDigits_length]; exact nDigits_le 15 u (by omega) hu
  by_cases hn : n < 0
  · rw [if_pos hn]
    simp only [numR, if_true]
    rw [hlen _ (by omega)]
    have := numI_dig (Lib.decDigits n.natAbs) 0 (dec_dig _)
    rw [dec_num] at this
    have e : ((0 : Nat) : Int) = 0 := rfl
    rw [e] at this
    rw [this]; omega
  · rw [if_neg hn]
    have hd := dec_dig n.toNat
    have hl15 := hlen n.toNat (by omega)
    have h3 := numI_dig (Lib.decDigits n.toNat) 0 (dec_dig _)
    rw [dec_num] at h3
    cases hl : Lib.decDigits n.toNat with
    | nil => exact absurd hl (dec_ne _)
    | cons c r =>
      rw [hl] at hd hl15 h3
      simp only [List.all_cons, Bool.and_eq_true] at hd
      have hc : 48 ≤ c.toNat ∧ c.toNat ≤ 57 := by simpa [isDig] using hd.1
      have h45 : c ≠ 45 := by intro e; rw [e] at hc; revert hc; decide
      simp only [numR, if_neg h45]
      rw [hl15]
      have e : ((0 : Nat) : Int) = 0 := rfl
      rw [e] at h3
      rw [h3]; omega

/-- How the reference tells a number. -/
theorem itoa_rec (n : Int) : Lib.itoa n = if n < 0 ∧ -10 < n then [45, UInt8.ofNat (48 + n.natAbs)] else if n < 0 then Lib.itoa (n.tdiv 10) ++ [UInt8.ofNat (48 + (n.tmod 10).natAbs)] else if n < 10 then [UInt8.ofNat (48 + n.natAbs)] else Lib.itoa (n.tdiv 10) ++ [UInt8.ofNat (48 + (n.tmod 10).natAbs)] := by
  by_cases h1 : n < 0
  · by_cases h2 : -10 < n
    · rw [if_pos ⟨h1, h2⟩]
      unfold Lib.itoa
      rw [if_pos h1, Lib.decDigits, dif_pos (by omega)]
    · rw [if_neg (by omega), if_pos h1]
      have hq : n.tdiv 10 = -((n.natAbs / 10 : Nat) : Int) := by
        obtain ⟨m, rfl⟩ : ∃ m : Nat, n = -(m : Int) := ⟨n.natAbs, by omega⟩
        rw [Int.neg_tdiv]; simp
      have hr : (n.tmod 10).natAbs = n.natAbs % 10 := by rw [Int.natAbs_tmod]; rfl
      rw [hr]
      unfold Lib.itoa
      rw [if_pos h1, if_pos (by rw [hq]; omega), Lib.decDigits, dif_neg (by omega)]
      have : (n.tdiv 10).natAbs = n.natAbs / 10 := by rw [hq]; omega
      rw [this]; rfl
  · rw [if_neg (by omega), if_neg h1]
    by_cases h2 : n < 10
    · rw [if_pos h2]
      unfold Lib.itoa
      rw [if_neg h1, Lib.decDigits, dif_pos (by omega)]
      have : n.toNat = n.natAbs := by omega
      rw [this]
    · rw [if_neg h2]
      have hq : n.tdiv 10 = ((n.toNat / 10 : Nat) : Int) := by
        obtain ⟨m, rfl⟩ : ∃ m : Nat, n = (m : Int) := ⟨n.toNat, by omega⟩
        simp
      have hr : (n.tmod 10).natAbs = n.toNat % 10 := by
        rw [Int.natAbs_tmod]
        have : n.natAbs = n.toNat := by omega
        rw [this]; rfl
      rw [hr]
      unfold Lib.itoa
      rw [if_neg h1, if_neg (by rw [hq]; omega), Lib.decDigits, dif_neg (by omega)]
      have : (n.tdiv 10).toNat = n.toNat / 10 := by rw [hq]; omega
      rw [this]
end Go.Sh

namespace Go.Sh
open Go

def unq2 : List UInt8 → List UInt8
  | c :: d :: l => if c = 92 then d :: unq2 l else c :: unq2 (d :: l)
  | _ => []

theorem unq2_quo : ∀ l : List UInt8, unq2 (quoL l ++ [39]) = l
  | [] => rfl
  | c :: l => by
    have ih := unq2_quo l
    unfold quoL
    by_cases h : c = 39 ∨ c = 92
    · rw [if_pos h]
      simp only [List.cons_append]
      rw [unq2, if_pos rfl, ih]
    · rw [if_neg h]
      have h2 : c ≠ 92 := fun e => h (.inr e)
      cases hq : quoL l with
      | nil => rw [hq] at ih; simp only [List.cons_append, List.nil_append] at *; rw [unq2, if_neg h2, ih]
      | cons d q => rw [hq] at ih; simp only [List.cons_append] at *; rw [unq2, if_neg h2, ih]

/-- What stands between the first one and the last one. -/
def mid (l : List UInt8) : List UInt8 := (l.drop 1).take (l.length - 2)

theorem mid_wrap (a b : UInt8) (l : List UInt8) : mid (a :: (l ++ [b])) = l := by simp [mid]

def atoiN (l : List UInt8) : Int := numCase (Lib.atoiAll l) (fun v => v) 0 (Lib.atoiSat l)

def guessV (l : List UInt8) : Int × Int × List UInt8 :=
  if l = [116, 114, 117, 101] then (1, 1, [])
  else if l = [102, 97, 108, 115, 101] then (1, 0, [])
  else if l = [110, 117, 108, 108] ∨ l = [] then (0, 0, [])
  else if 1 < l.length ∧ l.head? = some 39 then (3, 0, unq2 (l.drop 1))
  else if 1 < l.length ∧ l.head? = some 40 then (4, 0, mid l)
  else if 1 < l.length ∧ l.head? = some 91 then (5, 0, mid l)
  else (2, atoiN l, [])

def txt3 (v : Int × Int × List UInt8) : List UInt8 := txtV v.1 v.2.1 v.2.2
def right3 (v : Int × Int × List UInt8) : Bool := rightV v.1 v.2.1 v.2.2

def parseV (l : List UInt8) : Option (Int × Int × List UInt8) := if l ≠ [] ∧ txt3 (guessV l) = l then some (guessV l) else none

def cand (l : List UInt8) : List (Int × Int × List UInt8) :=
  [(0, 0, []), (1, 0, []), (1, 1, []), (2, numR l, []), (3, 0, unqL (mid l)), (4, 0, mid l), (5, 0, mid l)]

theorem itoa_head (n : Int) : ∃ c r, Lib.itoa n = c :: r ∧ (c = 45 ∨ (48 ≤ c.toNat ∧ c.toNat ≤ 57)) := by
  unfold Lib.itoa
  by_cases hn : n < 0
  · rw [if_pos hn]; exact ⟨_, _, rfl, .inl rfl⟩
  · rw [if_neg hn]
    have hd := dec_dig n.toNat
    cases hl : Lib.decDigits n.toNat with
    | nil => exact absurd hl (dec_ne _)
    | cons c r =>
      rw [hl] at hd
      simp only [List.all_cons, Bool.and_eq_true] at hd
      exact ⟨c, r, rfl, .inr (by simpa [isDig] using hd.1)⟩

theorem guess_itoa (n : Int) (h1 : -1099511627776 ≤ n) (h2 : n ≤ 1099511627776) : guessV (Lib.itoa n) = (2, n, []) := by
  obtain ⟨c, r, e, hc⟩ := itoa_head n
  have ha : atoiN (Lib.itoa n) = n := by unfold atoiN; rw [atoi_itoa n h1 h2]
  rw [e] at ha ⊢
  have hne : ∀ x : UInt8, x.toNat ≠ 45 → ¬ (48 ≤ x.toNat ∧ x.toNat ≤ 57) → c ≠ x := by
    intro x h3 h4 e
    subst e
    rcases hc with rfl | hc
    · exact h3 rfl
    · exact h4 hc
  unfold guessV
  have a1 : c ≠ 116 := hne _ (by decide) (by decide)
  have a2 : c ≠ 102 := hne _ (by decide) (by decide)
  have a3 : c ≠ 110 := hne _ (by decide) (by decide)
  have a4 : c ≠ 39 := hne _ (by decide) (by decide)
  have a5 : c ≠ 40 := hne _ (by decide) (by decide)
  have a6 : c ≠ 91 := hne _ (by decide) (by decide)
  simp [a1, a2, a3, a4, a5, a6, ha]

/-- The kinds of a value that may be. -/
theorem right_cases {k n : Int} {l : List UInt8} (h : rightV k n l = true) :
    (k = 0 ∧ n = 0 ∧ l = []) ∨ (k = 1 ∧ n = 0 ∧ l = []) ∨ (k = 1 ∧ n = 1 ∧ l = []) ∨ (k = 2 ∧ -1099511627776 ≤ n ∧ n ≤ 1099511627776 ∧ l = []) ∨ (k = 3 ∧ n = 0) ∨ (k = 4 ∧ n = 0) ∨ (k = 5 ∧ n = 0) := by
  unfold rightV at h
  split at h
  · simp at h; simp [*]
  · split at h
    · simp at h
      rcases h with ⟨h | h, h'⟩
      · simp [*]
      · simp [*]
    · split at h
      · simp at h; simp [*]
      · split at h
        · simp at h; simp [*]
        · split at h
          · simp at h; simp [*]
          · split at h
            · simp at h; simp [*]
            · cases h

theorem guess_txt {k n : Int} {l : List UInt8} (h : rightV k n l = true) : guessV (txtR k n l) = (k, n, l) := by
  rcases right_cases h with ⟨rfl, rfl, rfl⟩ | ⟨rfl, rfl, rfl⟩ | ⟨rfl, rfl, rfl⟩ | ⟨rfl, h1, h2, rfl⟩ | ⟨rfl, rfl⟩ | ⟨rfl, rfl⟩ | ⟨rfl, rfl⟩
  · decide
  · decide
  · decide
  · exact guess_itoa n h1 h2
  · simp [txtR, guessV, unq2_quo]
  · simp [txtR, guessV, mid_wrap]
  · simp [txtR, guessV, mid_wrap]

theorem cand_txt {k n : Int} {l : List UInt8} (h : rightV k n l = true) : (k, n, l) ∈ cand (txtR k n l) := by
  rcases right_cases h with ⟨rfl, rfl, rfl⟩ | ⟨rfl, rfl, rfl⟩ | ⟨rfl, rfl, rfl⟩ | ⟨rfl, h1, h2, rfl⟩ | ⟨rfl, rfl⟩ | ⟨rfl, rfl⟩ | ⟨rfl, rfl⟩
  · simp [cand]
  · simp [cand]
  · simp [cand]
  · have : txtR 2 n [] = Lib.itoa n := rfl
    rw [this]; simp [cand, numR_itoa n h1 h2]
  · have : txtR 3 0 l = 39 :: (quoL l ++ [39]) := rfl
    rw [this]; simp [cand, mid_wrap, unq_quo]
  · have : txtR 4 0 l = 40 :: (l ++ [41]) := rfl
    rw [this]; simp [cand, mid_wrap]
  · have : txtR 5 0 l = 91 :: (l ++ [93]) := rfl
    rw [this]; simp [cand, mid_wrap]

theorem txtR_ne {k n : Int} {l : List UInt8} : txtR k n l ≠ [] := by
  unfold txtR
  split
  · simp
  · split
    · split <;> simp
    · split
      · obtain ⟨c, r, e, _⟩ := itoa_head n; rw [e]; simp
      · split
        · simp
        · split <;> simp

theorem find_cand {l : List UInt8} (hl : l ≠ []) : (cand l).find? (fun v => right3 v && (txt3 v == l)) = parseV l := by
  cases hf : (cand l).find? (fun v => right3 v && (txt3 v == l)) with
  | some v =>
    have hp := List.find?_some hf
    simp only [Bool.and_eq_true, beq_iff_eq] at hp
    obtain ⟨k, n, s⟩ := v
    have hr : rightV k n s = true := hp.1
    have ht : txtR k n s = l := by have := hp.2; simpa [txt3, txtV, hr] using this
    have hg := guess_txt hr
    rw [ht] at hg
    unfold parseV
    rw [hg, if_pos ⟨hl, hp.2⟩]
  | none =>
    unfold parseV
    rw [if_neg]
    rintro ⟨_, ht⟩
    rcases hg : guessV l with ⟨k, n, s⟩
    rw [hg] at ht
    have ht' : txtV k n s = l := ht
    have hr : rightV k n s = true := by
      cases hr : rightV k n s with
      | true => rfl
      | false => rw [txtV, hr] at ht'; simp at ht'; exact absurd ht' hl
    have h2 : txtR k n s = l := by rw [txtV, hr] at ht'; simpa using ht'
    have hm := cand_txt hr
    rw [h2] at hm
    have := List.find?_eq_none.1 hf _ hm
    simp [right3, txt3, hr, ht'] at this

/-- A value's text is read as it was, if the value may be. -/
theorem parse_txt (k n : Int) (l : List UInt8) : parseV (txtV k n l) = if rightV k n l = true then some (k, n, l) else none := by
  unfold parseV
  cases hr : rightV k n l with
  | true =>
    have hg := guess_txt hr
    have e : txtV k n l = txtR k n l := by simp [txtV, hr]
    rw [e, hg, if_pos ⟨txtR_ne, by simp [txt3, e]⟩]; rfl
  | false =>
    have e : txtV k n l = [] := by simp [txtV, hr]
    rw [e]; simp
end Go.Sh

namespace Go.Sh
open Go

/-! What the script laws need of plain rows of bytes: words, and a change's line. -/

theorem index_hit (x : UInt8) (r : List UInt8) : ∀ w : List UInt8, x ∉ w → Lib.index (w ++ x :: r) [x] = w.length
  | [], _ => by simp [Lib.index, List.isPrefixOf]
  | b :: w, h => by
    have h1 : ¬ x = b := fun e => h (by simp [e])
    have ih := index_hit x r w (fun e => h (by simp [e]))
    have h2 : ¬ ((w.length : Int) = -1) := by omega
    have h3 : ((x == b) && ([] : List UInt8).isPrefixOf (w ++ x :: r)) = false := by simp [h1]
    simp [Lib.index, List.isPrefixOf, h1, ih, h2]

theorem index_miss (x : UInt8) : ∀ w : List UInt8, x ∉ w → Lib.index w [x] = -1
  | [], _ => by simp [Lib.index]
  | b :: w, h => by
    have h1 : ¬ x = b := fun e => h (by simp [e])
    have ih := index_miss x w (fun e => h (by simp [e]))
    simp [Lib.index, List.isPrefixOf, h1, ih]

theorem cut_hit (x : UInt8) (w r : List UInt8) (h : x ∉ w) : Lib.cut (w ++ x :: r) [x] = (w, r, true) := by
  unfold Lib.cut
  rw [index_hit x r w h, if_pos (by omega)]
  have e : w.length + 1 = (w ++ [x]).length := by simp
  simp

theorem cut_miss (x : UInt8) (w : List UInt8) (h : x ∉ w) : Lib.cut w [x] = (w, [], false) := by
  unfold Lib.cut
  rw [index_miss x w h, if_neg (by omega)]

theorem cut_cases (x : UInt8) (l : List UInt8) : (∃ w r, x ∉ w ∧ l = w ++ x :: r ∧ Lib.cut l [x] = (w, r, true)) ∨ (x ∉ l ∧ Lib.cut l [x] = (l, [], false)) := by
  by_cases h : x ∈ l
  · obtain ⟨w, r, e, hw⟩ := List.eq_append_cons_of_mem h
    exact .inl ⟨w, r, hw, e, by rw [e]; exact cut_hit x w r hw⟩
  · exact .inr ⟨h, cut_miss x l h⟩

def w1 (l : List UInt8) : List UInt8 := (Lib.cut l [32]).1
def r1 (l : List UInt8) : List UInt8 := (Lib.cut l [32]).2.1

theorem w1_len (l : List UInt8) : (w1 l).length ≤ l.length := by
  unfold w1
  rcases cut_cases 32 l with ⟨w, r, _, e, h⟩ | ⟨_, h⟩
  · rw [h, e]; simp
  · rw [h]; simp
theorem r1_len (l : List UInt8) : (r1 l).length ≤ l.length := by
  unfold r1
  rcases cut_cases 32 l with ⟨w, r, _, e, h⟩ | ⟨_, h⟩
  · rw [h, e]; simp; omega
  · rw [h]; simp

theorem join_cons (x : UInt8) (w : List UInt8) (ws : List (List UInt8)) : Lib.join (w :: ws) [x] = w ++ (match ws with | [] => [] | _ => x :: Lib.join ws [x]) := by
  cases ws with
  | nil => simp [Lib.join_one]
  | cons v ws => simp [Lib.join, List.intercalate, List.intersperse]

theorem cut_join (x : UInt8) (w : List UInt8) (ws : List (List UInt8)) (h : x ∉ w) : (Lib.cut (Lib.join (w :: ws) [x]) [x]).1 = w ∧ (Lib.cut (Lib.join (w :: ws) [x]) [x]).2.1 = Lib.join ws [x] := by
  rw [join_cons]
  cases ws with
  | nil => simp only [List.append_nil]; rw [cut_miss x w h]; exact ⟨rfl, rfl⟩
  | cons v ws => simp only; rw [cut_hit x w _ h]; exact ⟨rfl, rfl⟩

theorem w1_join (w : List UInt8) (ws : List (List UInt8)) (h : (32 : UInt8) ∉ w) : w1 (Lib.join (w :: ws) [32]) = w := (cut_join 32 w ws h).1
theorem r1_join (w : List UInt8) (ws : List (List UInt8)) (h : (32 : UInt8) ∉ w) : r1 (Lib.join (w :: ws) [32]) = Lib.join ws [32] := (cut_join 32 w ws h).2

/-- Where a word stands in a row; -1: nowhere. -/
def idxL (w : List UInt8) : List (List UInt8) → Nat → Int
  | [], _ => -1
  | y :: l, i => if w = y then i else idxL w l (i + 1)

theorem idxL_range (w : List UInt8) : ∀ (l : List (List UInt8)) (i : Nat), idxL w l i = -1 ∨ ((i : Int) ≤ idxL w l i ∧ idxL w l i < i + l.length ∧ l[(idxL w l i).toNat - i]? = some w)
  | [], i => .inl rfl
  | y :: l, i => by
    unfold idxL
    split
    · rename_i h
      refine .inr ⟨by omega, by simp; omega, ?_⟩
      simp [h]
    · rcases idxL_range w l (i + 1) with h | ⟨h1, h2, h3⟩
      · exact .inl h
      · refine .inr ⟨by omega, by simp; omega, ?_⟩
        have e : (idxL w l (i + 1)).toNat - i = ((idxL w l (i + 1)).toNat - (i + 1)) + 1 := by omega
        rw [e]; simpa using h3

def opsL : List (List UInt8) := [[], [97, 100, 100], [114, 101, 109, 111, 118, 101], [115, 101, 116], [99, 108, 101, 97, 114]]
def elsL : List (List UInt8) := [[], [110, 111, 100, 101], [108, 97, 98, 101, 108], [101, 100, 103, 101], [112, 114, 111, 112], [116, 114, 97, 105, 116]]
def namL : List (List UInt8) := [[], [119, 114, 105, 116, 101], [116, 105, 99, 107], [100, 101, 108, 105, 118, 101, 114], [100, 114, 111, 112], [100, 111, 117, 98, 108, 101], [116, 117, 114, 110], [99, 114, 97, 115, 104], [114, 101, 99, 111, 118, 101, 114], [99, 111, 109, 112, 97, 99, 116], [115, 112, 111, 105, 108], [115, 121, 110, 99]]

/-- The word of a number. -/
def nthL (L : List (List UInt8)) (k : Int) : List UInt8 := L.getD k.toNat []

/-- A change: what is done, the element's kind and names, the value. -/
structure Chg where
  op : Int
  ek : Int
  a : List UInt8
  b : List UInt8
  c : List UInt8
  d : List UInt8
  vk : Int
  vn : Int
  vt : List UInt8

def Chg.zero : Chg := ⟨0, 0, [], [], [], [], 0, 0, []⟩

/-- May an element be? -/
def elemV (k : Int) (a b c d : List UInt8) : Bool :=
  if k = 1 then nameL a && decide (b = [] ∧ c = [] ∧ d = [])
  else if k = 2 ∨ k = 4 then nameL a && nameL d && decide (b = [] ∧ c = [])
  else if k = 3 then nameL a && nameL b && nameL c && decide (d = [])
  else if k = 5 then nameL a && nameL b && nameL c && nameL d
  else false

def Chg.none (x : Chg) : Bool := decide (x.vk = 0 ∧ x.vn = 0 ∧ x.vt = [])
def Chg.okB (x : Chg) : Bool := decide (1 ≤ x.op ∧ x.op ≤ 4) && (elemV x.ek x.a x.b x.c x.d && (rightV x.vk x.vn x.vt && (x.none != decide (x.op = 3))))
def partsL (k : Int) (a b c d : List UInt8) : List (List UInt8) := if k = 1 then [a] else if k = 3 then [a, c, b] else if k = 5 then [a, c, b, d] else [a, d]
def Chg.text (x : Chg) : List UInt8 := Lib.join (nthL opsL x.op :: nthL elsL x.ek :: (partsL x.ek x.a x.b x.c x.d ++ (if x.none then [] else [txtV x.vk x.vn x.vt]))) [32]

/-- The words that an element's kind wants, and what is left. -/
def takeP (k : Int) (r : List UInt8) : List UInt8 × List UInt8 × List UInt8 × List UInt8 × List UInt8 :=
  if k = 1 then (w1 r, [], [], [], r1 r)
  else if k = 3 then (w1 r, w1 (r1 (r1 r)), w1 (r1 r), [], r1 (r1 (r1 r)))
  else if k = 5 then (w1 r, w1 (r1 (r1 r)), w1 (r1 r), w1 (r1 (r1 (r1 r))), r1 (r1 (r1 (r1 r))))
  else (w1 r, [], [], w1 (r1 r), r1 (r1 r))

def Chg.of (op ek : Int) (p : List UInt8 × List UInt8 × List UInt8 × List UInt8 × List UInt8) : Chg :=
  let v := if op = 3 then (parseV p.2.2.2.2).getD (0, 0, []) else (0, 0, [])
  ⟨op, ek, p.1, p.2.1, p.2.2.1, p.2.2.2.1, v.1, v.2.1, v.2.2⟩

def readC (s : List UInt8) : Option Chg :=
  if idxL (w1 s) opsL 0 < 1 ∨ idxL (w1 (r1 s)) elsL 0 < 1 then Option.none
  else
    let c := Chg.of (idxL (w1 s) opsL 0) (idxL (w1 (r1 s)) elsL 0) (takeP (idxL (w1 (r1 s)) elsL 0) (r1 (r1 s)))
    if c.okB = true ∧ c.text = s then some c else Option.none

theorem readC_some {s : List UInt8} {c : Chg} (h : readC s = some c) : c.okB = true ∧ c.text = s := by
  unfold readC at h
  split at h
  · cases h
  · simp only at h
    split at h
    · rename_i hc
      injection h with h
      subst h
      exact hc
    · cases h

theorem inner32 (l : List UInt8) (h : l.all inner = true) : (32 : UInt8) ∉ l := by
  intro hm
  have := List.all_eq_true.1 h 32 hm
  revert this; decide
theorem name32 {l : List UInt8} (h : nameL l = true) : (32 : UInt8) ∉ l := by
  simp only [nameL, Bool.and_eq_true] at h
  exact inner32 l h.2

theorem op_cases {k : Int} (h : 1 ≤ k ∧ k ≤ 4) : k = 1 ∨ k = 2 ∨ k = 3 ∨ k = 4 := by omega
theorem op_word {k : Int} (h : 1 ≤ k ∧ k ≤ 4) : (32 : UInt8) ∉ nthL opsL k ∧ idxL (nthL opsL k) opsL 0 = k := by
  rcases op_cases h with rfl | rfl | rfl | rfl <;> decide
theorem el_word {k : Int} (h : k = 1 ∨ k = 2 ∨ k = 3 ∨ k = 4 ∨ k = 5) : (32 : UInt8) ∉ nthL elsL k ∧ idxL (nthL elsL k) elsL 0 = k := by
  rcases h with rfl | rfl | rfl | rfl | rfl <;> decide
theorem elem_kind {k : Int} {a b c d : List UInt8} (h : elemV k a b c d = true) : k = 1 ∨ k = 2 ∨ k = 3 ∨ k = 4 ∨ k = 5 := by
  unfold elemV at h
  split at h
  · omega
  · split at h
    · omega
    · split at h
      · omega
      · split at h
        · omega
        · cases h

/-- The words are taken as they were put. -/
theorem takeP_text {k : Int} {a b c d : List UInt8} (h : elemV k a b c d = true) (vs : List (List UInt8)) : takeP k (Lib.join (partsL k a b c d ++ vs) [32]) = (a, b, c, d, Lib.join vs [32]) := by
  rcases elem_kind h with rfl | rfl | rfl | rfl | rfl
  · simp [elemV] at h
    obtain ⟨ha, rfl, rfl, rfl⟩ := h
    have na := name32 ha
    simp [takeP, partsL, w1_join, r1_join, na]
  · simp [elemV] at h
    obtain ⟨⟨ha, hd⟩, rfl, rfl⟩ := h
    have na := name32 ha; have nd := name32 hd
    simp [takeP, partsL, w1_join, r1_join, na, nd]
  · simp [elemV] at h
    obtain ⟨⟨⟨ha, hb⟩, hc⟩, rfl⟩ := h
    have na := name32 ha; have nb := name32 hb; have nc := name32 hc
    simp [takeP, partsL, w1_join, r1_join, na, nb, nc]
  · simp [elemV] at h
    obtain ⟨⟨ha, hd⟩, rfl, rfl⟩ := h
    have na := name32 ha; have nd := name32 hd
    simp [takeP, partsL, w1_join, r1_join, na, nd]
  · simp [elemV] at h
    obtain ⟨⟨⟨ha, hb⟩, hc⟩, hd⟩ := h
    have na := name32 ha; have nb := name32 hb; have nc := name32 hc; have nd := name32 hd
    simp [takeP, partsL, w1_join, r1_join, na, nb, nc, nd]

/-- A change's line is read as it was. -/
theorem readC_text (x : Chg) (h : x.okB = true) : readC x.text = some x := by
  have h0 := h
  simp only [Chg.okB, Bool.and_eq_true, decide_eq_true_eq, bne_iff_ne, ne_eq] at h
  obtain ⟨hop, hel, hv, hn⟩ := h
  obtain ⟨o1, o2⟩ := op_word hop
  obtain ⟨e1, e2⟩ := el_word (elem_kind hel)
  have f1 : w1 x.text = nthL opsL x.op := w1_join _ _ o1
  have f2 : r1 x.text = Lib.join (nthL elsL x.ek :: (partsL x.ek x.a x.b x.c x.d ++ (if x.none then [] else [txtV x.vk x.vn x.vt]))) [32] := r1_join _ _ o1
  have f3 : w1 (r1 x.text) = nthL elsL x.ek := by rw [f2]; exact w1_join _ _ e1
  have f4 : r1 (r1 x.text) = Lib.join (partsL x.ek x.a x.b x.c x.d ++ (if x.none then [] else [txtV x.vk x.vn x.vt])) [32] := by rw [f2]; exact r1_join _ _ e1
  have hk := elem_kind hel
  unfold readC
  rw [f1, f3, f4, o2, e2, if_neg (by omega), takeP_text hel]
  have hc : Chg.of x.op x.ek (x.a, x.b, x.c, x.d, Lib.join (if x.none = true then [] else [txtV x.vk x.vn x.vt]) [32]) = x := by
    unfold Chg.of
    by_cases h3 : x.op = 3
    · have hn' : x.none = false := by
        cases hx : x.none with
        | false => rfl
        | true => exact absurd (by rw [hx]; simp [h3]) hn
      simp only [h3, hn', if_true, Bool.false_eq_true, if_false, Lib.join_one, parse_txt, hv]
      rw [← h3]; rfl
    · have hn' : x.none = true := by
        cases hx : x.none with
        | true => rfl
        | false => exact absurd (by rw [hx]; simp [h3]) hn
      simp only [Chg.none, decide_eq_true_eq] at hn'
      obtain ⟨h4, h5, h6⟩ := hn'
      simp only [h3, if_false]
      obtain ⟨_, _, _, _, _, _, _, _, _⟩ := x
      simp only at h4 h5 h6
      subst h4 h5 h6
      rfl
  simp only [hc]
  rw [if_pos ⟨h0, trivial⟩]
end Go.Sh
