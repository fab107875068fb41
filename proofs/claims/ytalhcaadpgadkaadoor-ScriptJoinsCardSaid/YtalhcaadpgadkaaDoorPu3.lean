/- Own work, over the shadow machine: VPure3. -/
import Derived.Test.YtalhcaadpgadkaaDoorPu2
import Derived.Test.YtalhcaadpgadkaaDoorShA
set_option linter.all false
namespace Go.Sh
open Go

def unq2 : List UInt8 → List UInt8
  | c :: d :: l => if c = 92 then d :: unq2 l else c :: unq2 (d :: l)
  | _ => []

theorem unq2_quo : ∀ l : List UInt8, unq2 (quoL l ++ [39]) = l
  | [] => rfl
  | c :: l => by
    have ih := unq2_quo l
    unfold quoL
    by_cases h : c = 39 ∨ c = 92
    · rw [if_pos h]
      simp only [List.cons_append]
      rw [unq2, if_pos rfl, ih]
    · rw [if_neg h]
      have h2 : c ≠ 92 := fun e => h (.inr e)
      cases hq : quoL l with
      | nil => rw [hq] at ih; simp only [List.cons_append, List.nil_append] at *; rw [unq2, if_neg h2, ih]
      | cons d q => rw [hq] at ih; simp only [List.cons_append] at *; rw [unq2, if_neg h2, ih]

/-- What stands between the first one and the last one. -/
def mid (l : List UInt8) : List UInt8 := (l.drop 1).take (l.length - 2)

theorem mid_wrap (a b : UInt8) (l : List UInt8) : mid (a :: (l ++ [b])) = l := by simp [mid]

def atoiN (l : List UInt8) : Int := numCase (Lib.atoiAll l) (fun v => v) 0 (Lib.atoiSat l)

def guessV (l : List UInt8) : Int × Int × List UInt8 :=
  if l = [116, 114, 117, 101] then (1, 1, [])
  else if l = [102, 97, 108, 115, 101] then (1, 0, [])
  else if l = [110, 117, 108, 108] ∨ l = [] then (0, 0, [])
  else if 1 < l.length ∧ l.head? = some 39 then (3, 0, unq2 (l.drop 1))
  else if 1 < l.length ∧ l.head? = some 40 then (4, 0, mid l)
  else if 1 < l.length ∧ l.head? = some 91 then (5, 0, mid l)
  else (2, atoiN l, [])

def txt3 (v : Int × Int × List UInt8) : List UInt8 := txtV v.1 v.2.1 v.2.2
def right3 (v : Int × Int × List UInt8) : Bool := rightV v.1 v.2.1 v.2.2

def parseV (l : List UInt8) : Option (Int × Int × List UInt8) := if l ≠ [] ∧ txt3 (guessV l) = l then some (guessV l) else none

def cand (l : List UInt8) : List (Int × Int × List UInt8) :=
  [(0, 0, []), (1, 0, []), (1, 1, []), (2, numR l, []), (3, 0, unqL (mid l)), (4, 0, mid l), (5, 0, mid l)]

theorem itoa_head (n : Int) : ∃ c r, Lib.itoa n = c :: r ∧ (c = 45 ∨ (48 ≤ c.toNat ∧ c.toNat ≤ 57)) := by
  unfold Lib.itoa
  by_cases hn : n < 0
  · rw [if_pos hn]; exact ⟨_, _, rfl, .inl rfl⟩
  · rw [if_neg hn]
    have hd := dec_dig n.toNat
    cases hl : Lib.decDigits n.toNat with
    | nil => exact absurd hl (dec_ne _)
    | cons c r =>
      rw [hl] at hd
      simp only [List.all_cons, Bool.and_eq_true] at hd
      exact ⟨c, r, rfl, .inr (by simpa [isDig] using hd.1)⟩

theorem guess_itoa (n : Int) (h1 : -1099511627776 ≤ n) (h2 : n ≤ 1099511627776) : guessV (Lib.itoa n) = (2, n, []) := by
  obtain ⟨c, r, e, hc⟩ := itoa_head n
  have ha : atoiN (Lib.itoa n) = n := by unfold atoiN; rw [atoi_itoa n h1 h2]
  rw [e] at ha ⊢
  have hne : ∀ x : UInt8, x.toNat ≠ 45 → ¬ (48 ≤ x.toNat ∧ x.toNat ≤ 57) → c ≠ x := by
    intro x h3 h4 e
    subst e
    rcases hc with rfl | hc
    · exact h3 rfl
    · exact h4 hc
  unfold guessV
  have a1 : c ≠ 116 := hne _ (by decide) (by decide)
  have a2 : c ≠ 102 := hne _ (by decide) (by decide)
  have a3 : c ≠ 110 := hne _ (by decide) (by decide)
  have a4 : c ≠ 39 := hne _ (by decide) (by decide)
  have a5 : c ≠ 40 := hne _ (by decide) (by decide)
  have a6 : c ≠ 91 := hne _ (by decide) (by decide)
  simp [a1, a2, a3, a4, a5, a6, ha]

/-- The kinds of a value that may be. -/
theorem right_cases {k n : Int} {l : List UInt8} (h : rightV k n l = true) :
    (k = 0 ∧ n = 0 ∧ l = []) ∨ (k = 1 ∧ n = 0 ∧ l = []) ∨ (k = 1 ∧ n = 1 ∧ l = []) ∨ (k = 2 ∧ -1099511627776 ≤ n ∧ n ≤ 1099511627776 ∧ l = []) ∨ (k = 3 ∧ n = 0) ∨ (k = 4 ∧ n = 0) ∨ (k = 5 ∧ n = 0) := by
  unfold rightV at h
  split at h
  · simp at h; simp [*]
  · split at h
    · simp at h
      rcases h with ⟨h | h, h'⟩
      · simp [*]
      · simp [*]
    · split at h
      · simp at h; simp [*]
      · split at h
        · simp at h; simp [*]
        · split at h
          · simp at h; simp [*]
          · split at h
            · simp at h; simp [*]
            · cases h

theorem guess_txt {k n : Int} {l : List UInt8} (h : rightV k n l = true) : guessV (txtR k n l) = (k, n, l) := by
  rcases right_cases h with ⟨rfl, rfl, rfl⟩ | ⟨rfl, rfl, rfl⟩ | ⟨rfl, rfl, rfl⟩ | ⟨rfl, h1, h2, rfl⟩ | ⟨rfl, rfl⟩ | ⟨rfl, rfl⟩ | ⟨rfl, rfl⟩
  · decide
  · decide
  · decide
  · exact guess_itoa n h1 h2
  · simp [txtR, guessV, unq2_quo]
  · simp [txtR, guessV, mid_wrap]
  · simp [txtR, guessV, mid_wrap]

theorem cand_txt {k n : Int} {l : List UInt8} (h : rightV k n l = true) : (k, n, l) ∈ cand (txtR k n l) := by
  rcases right_cases h with ⟨rfl, rfl, rfl⟩ | ⟨rfl, rfl, rfl⟩ | ⟨rfl, rfl, rfl⟩ | ⟨rfl, h1, h2, rfl⟩ | ⟨rfl, rfl⟩ | ⟨rfl, rfl⟩ | ⟨rfl, rfl⟩
  · simp [cand]
  · simp [cand]
  · simp [cand]
  · have : txtR 2 n [] = Lib.itoa n := rfl
    rw [this]; simp [cand, numR_itoa n h1 h2]
  · have : txtR 3 0 l = 39 :: (quoL l ++ [39]) := rfl
    rw [this]; simp [cand, mid_wrap, unq_quo]
  · have : txtR 4 0 l = 40 :: (l ++ [41]) := rfl
    rw [this]; simp [cand, mid_wrap]
  · have : txtR 5 0 l = 91 :: (l ++ [93]) := rfl
    rw [this]; simp [cand, mid_wrap]

theorem txtR_ne {k n : Int} {l : List UInt8} : txtR k n l ≠ [] := by
  unfold txtR
  split
  · simp
  · split
    · split <;> simp
    · split
      · obtain ⟨c, r, e, _⟩ := itoa_head n; rw [e]; simp
      · split
        · simp
        · split <;> simp

theorem find_cand {l : List UInt8} (hl : l ≠ []) : (cand l).find? (fun v => right3 v && (txt3 v == l)) = parseV l := by
  cases hf : (cand l).find? (fun v => right3 v && (txt3 v == l)) with
  | some v =>
    have hp := List.find?_some hf
    simp only [Bool.and_eq_true, beq_iff_eq] at hp
    obtain ⟨k, n, s⟩ := v
    have hr : rightV k n s = true := hp.1
    have ht : txtR k n s = l := by have := hp.2; simpa [txt3, txtV, hr] using this
    have hg := guess_txt hr
    rw [ht] at hg
    unfold parseV
    rw [hg, if_pos ⟨hl, hp.2⟩]
  | none =>
    unfold parseV
    rw [if_neg]
    rintro ⟨_, ht⟩
    rcases hg : guessV l with ⟨k, n, s⟩
    rw [hg] at ht
    have ht' : txtV k n s = l := ht
    have hr : rightV k n s = true := by
      cases hr : rightV k n s with
      | true => rfl
      | false => rw [txtV, hr] at ht'; simp at ht'; exact absurd ht' hl
    have h2 : txtR k n s = l := by rw [txtV, hr] at ht'; simpa using ht'
    have hm := cand_txt hr
    rw [h2] at hm
    have := List.find?_eq_none.1 hf _ hm
    simp [right3, txt3, hr, ht'] at this

/-- A value's text is read as it was, if the value may be. -/
theorem parse_txt (k n : Int) (l : List UInt8) : parseV (txtV k n l) = if rightV k n l = true then some (k, n, l) else none := by
  unfold parseV
  cases hr : rightV k n l with
  | true =>
    have hg := guess_txt hr
    have e : txtV k n l = txtR k n l := by simp [txtV, hr]
    rw [e, hg, if_pos ⟨txtR_ne, by simp [txt3, e]⟩]; rfl
  | false =>
    have e : txtV k n l = [] := by simp [txtV, hr]
    rw [e]; simp
end Go.Sh
