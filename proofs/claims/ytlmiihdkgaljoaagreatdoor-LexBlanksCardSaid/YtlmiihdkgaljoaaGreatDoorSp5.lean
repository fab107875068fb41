/- Own work, over the shadow machine: LSpec5. -/
import Derived.Test.YtlmiihdkgaljoaaGreatDoorVal
set_option linter.all false
namespace Go.Proofs.YtlmiihdkgaljoaaGreatDoor
open Go.Sh
set_option maxRecDepth 100000

/-! ## Kinds of bytes -/

theorem lex_letter (c : UInt8) (H : GH) : ecall T f_lex_letter [.int .u8 c.toNat] H = some (.bool (letter c), H) := by
  apply optW.eq
  rw [ecall_0 T_lex_letter rfl (by simp [F_lex_letter]), wp_fin1]
  rcases cls c with h | h | h | h | h | h | h | h
  all_goals
    obtain ⟨a0, a1, a2, a3, a4, a5, a6, al, an⟩ := h
    simp only [decide_eq_true_eq, decide_eq_false_iff_not] at a0 a1 a2 a3 a4 a5 a6
    simp [F_lex_letter, b_lex_letter, a0, a1, a2, a3, al]

theorem dig_cls {c : UInt8} : isDig c = (decide ((48 : Int) ≤ c.toNat) && decide ((c.toNat : Int) ≤ 57)) := by
  unfold isDig
  rw [Bool.eq_iff_iff]; simp; omega

theorem lex_digit (c : UInt8) (H : GH) : ecall T f_lex_digit [.int .u8 c.toNat] H = some (.bool (isDig c), H) := by
  apply optW.eq
  rw [ecall_0 T_lex_digit rfl (by simp [F_lex_digit]), wp_fin1, dig_cls]
  by_cases h1 : (48 : Int) ≤ c.toNat
  · by_cases h2 : (c.toNat : Int) ≤ 57 <;> simp [F_lex_digit, b_lex_digit, h1, h2]
  · simp [F_lex_digit, b_lex_digit, h1]

theorem lex_inner (c : UInt8) (H : GH) : ecall T f_lex_inner [.int .u8 c.toNat] H = some (.bool (inner c), H) := by
  apply optW.eq
  rw [ecall_0 T_lex_inner rfl (by simp [F_lex_inner]), wp_fin1]
  have hd := dig_cls (c := c)
  rcases cls c with h | h | h | h | h | h | h | h
  all_goals
    obtain ⟨a0, a1, a2, a3, a4, a5, a6, al, an⟩ := h
    rw [a4, a5] at hd
    simp only [decide_eq_true_eq, decide_eq_false_iff_not] at a0 a1 a2 a3 a4 a5 a6
    have hl := lex_letter c H
    have hdg := lex_digit c H
    rw [al] at hl
    rw [hd] at hdg
    simp at hdg
    first
      | (simp [F_lex_inner, b_lex_inner, hl, hdg, an, a6]; done)
      | (rw [a6] at hl hdg; have hn : c.toNat = 95 := by omega
         simp [F_lex_inner, b_lex_inner, hl, hdg, an, a6, hn])

/-! ## Looking into rows -/

theorem index_loop (w : ByteArray) (all : List ByteArray) (t : Tag) (hall : all.length ≤ 1000) (xs : List ByteArray) : ∀ (j : Nat) (_ : all.drop j = xs) (l : List GV) (g : Nat) (H : GH) (K : GExit × St → Prop)
    (_ : lget l 1 = .str w) (_ : lget l 0 = .sl 1 (all.map .str) t) (_ : lget l 7 = .int .i64 all.length) (_ : lget l 8 = .int .i64 j)
    (_ : ∀ (l' : List GV) (n : Nat), w ∈ xs → lget l' 4 = .int .i64 n → K (.ret, ⟨⟨l', g⟩, H⟩))
    (_ : ∀ (l' : List GV), ¬ w ∈ xs → K (.exit 0, ⟨⟨l', g⟩, H⟩)),
    optW (erun T (.loop L0_slices_Indexstringstring) ⟨⟨l, g⟩, H⟩) K := by
  induction xs with
  | nil =>
    intro j hd l g H K h1 h0 h7 h8 hr he
    have hle : all.length ≤ j := by simpa using hd
    have hge : ¬ ((j : Int) < all.length) := by omega
    have hge' : ¬ (j < all.length) := by omega
    rw [run_loop]
    simp [L0_slices_Indexstringstring, h7, h8, hge, hge']
    exact he _ (by simp)
  | cons x xs ih =>
    intro j hd l g H K h1 h0 h7 h8 hr he
    have hj : j < all.length := by
      rcases Nat.lt_or_ge j all.length with h1 | h1
      · exact h1
      · rw [List.drop_eq_nil_of_le h1] at hd; cases hd
    have hgv : all[j]? = some x := by
      have := congrArg (·[0]?) hd
      simpa using this
    have hd' : all.drop (j + 1) = xs := by
      have := congrArg List.tail hd
      simpa using this
    have hgd : ∀ h : j < all.length, all[j]'h = x := fun h => by rw [List.getElem?_eq_getElem h] at hgv; exact Option.some.inj hgv
    have hlt : (j : Int) < all.length := by omega
    have hix : gIx all.length (.int .i64 (j : Int)) = some j := by simp only [gIx]; rw [if_pos (by omega)]; simp
    have hw : IntKind.i64.wrap ((j : Int) + 1) = (j : Int) + 1 := wrap_i64' (by omega) (by omega)
    rw [run_loop, wp_seqK]
    by_cases hx : w = x
    · subst hx
      simp [L0_slices_Indexstringstring, h0, h1, h7, h8, hlt, hj, hix, hgv, hgd]
      exact hr _ j (by simp) (by simp)
    · simp [L0_slices_Indexstringstring, h0, h1, h7, h8, hlt, hj, hix, hgv, hgd, hx, hw]
      refine ih (j + 1) hd' _ _ H K ?_ ?_ ?_ ?_ ?_ ?_
      · simp [h1]
      · simp [h0]
      · simp [h7]
      · simp
      · intro l' n m1 m2; exact hr l' n (by simp [m1]) m2
      · intro l' m1; exact he l' (by simp [hx, m1])

def memB (w : ByteArray) (L : List ByteArray) : Bool := L.any fun x => decide (x = w)
theorem memB_iff {w : ByteArray} {L : List ByteArray} : memB w L = true ↔ w ∈ L := by simp [memB, List.any_eq_true]

theorem contains_ok (L : List ByteArray) (t : Tag) (w : ByteArray) (hL : L.length ≤ 1000) (H : GH) : ecall T f_slices_Containsstringstring [.sl 1 (L.map .str) t, .str w] H = some (.bool (memB w L), H) := by
  have hi : ∃ r : Int, ecall T f_slices_Indexstringstring [.sl 1 (L.map .str) t, .str w] H = some (.int .i64 r, H) ∧ (0 ≤ r ↔ w ∈ L) := by
    have key : optW (ecall T f_slices_Indexstringstring [.sl 1 (L.map .str) t, .str w] H) fun x => ∃ r : Int, x = (.int .i64 r, H) ∧ (0 ≤ r ↔ w ∈ L) := by
      rw [ecall_0 T_slices_Indexstringstring rfl (by simp [F_slices_Indexstringstring]), wp_fin1]
      simp only [F_slices_Indexstringstring, b_slices_Indexstringstring]
      simp
      rw [wp_seqK, wp_blockK]
      refine index_loop w L t hL L 0 rfl _ _ _ _ ?_ ?_ ?_ ?_ ?_ ?_
      · simp
      · simp
      · simp
      · simp
      · intro l' n m1 m2
        simp [m2, m1]
      · intro l' m1
        simp [m1]
    obtain ⟨v, h, r, rfl, h2⟩ := key
    exact ⟨r, h, h2⟩
  obtain ⟨r, h1, h2⟩ := hi
  apply optW.eq
  rw [ecall_0 T_slices_Containsstringstring rfl (by simp [F_slices_Containsstringstring]), wp_fin1]
  by_cases hr : 0 ≤ r
  · have hm : memB w L = true := memB_iff.2 (h2.1 hr)
    simp [F_slices_Containsstringstring, b_slices_Containsstringstring, h1, hr, hm]
  · have : memB w L = false := by
      rw [Bool.eq_false_iff]; exact fun h => hr (h2.2 (memB_iff.1 h))
    simp [F_slices_Containsstringstring, b_slices_Containsstringstring, h1, hr, this]

/-! ## How long a beginning is -/

theorem while_loop (s : ByteArray) (hs : s.size ≤ 100000) (f : Nat) (p : UInt8 → Bool) (hp : ∀ (c : UInt8) (H : GH), ecall T f [.int .u8 c.toNat] H = some (.bool (p c), H)) (cs : List UInt8) : ∀ (i : Nat) (_ : s.data.toList.drop i = cs) (l : List GV) (g : Nat) (H : GH) (K : GExit × St → Prop)
    (_ : i ≤ s.size) (_ : lget l 0 = .str s) (_ : lget l 1 = .func f [] []) (_ : lget l 7 = .int .i64 s.size) (_ : lget l 8 = .int .i64 i)
    (_ : ∀ (l' : List GV), lget l' 4 = .int .i64 ((i + (cs.takeWhile p).length : Nat) : Int) → K (.ret, ⟨⟨l', g⟩, H⟩))
    (_ : ∀ (l' : List GV), i + (cs.takeWhile p).length = s.size → lget l' 0 = .str s → K (.exit 0, ⟨⟨l', g⟩, H⟩)),
    optW (erun T (.loop L0_lex_while) ⟨⟨l, g⟩, H⟩) K := by
  have hsz := bs_size s
  induction cs with
  | nil =>
    intro i hd l g H K his h0 h1 h7 h8 hr he
    have hle := drop_none hd
    have hi : i = s.size := by omega
    subst hi
    rw [run_loop]
    simp [L0_lex_while, h0, h7, h8]
    exact he _ (by simp) (by simp [h0])
  | cons c cs ih =>
    intro i hd l g H K his h0 h1 h7 h8 hr he
    obtain ⟨hg, hi, hd'⟩ := drop_some hd
    have hlt : (i : Int) < s.size := by omega
    have hlt' : i < s.size := by omega
    have hix := ix_ok hlt
    have hw : IntKind.i64.wrap ((i : Int) + 1) = (i : Int) + 1 := wrap_i64' (by omega) (by omega)
    have hg' : s.data[i]? = some c := by simpa using hg
    have hgd : ∀ h : i < s.data.size, s.data[i]'h = c := fun h => by rw [Array.getElem?_eq_getElem h] at hg'; exact Option.some.inj hg'
    have hpc := hp c H
    rw [run_loop, wp_seqK]
    cases hpv : p c <;> rw [hpv] at hpc
    · simp [L0_lex_while, h0, h1, h7, h8, hlt, hlt', hix, str_get, hg', hgd, hpc]
      exact hr _ (by simp [hpv])
    · simp [L0_lex_while, h0, h1, h7, h8, hlt, hlt', hix, str_get, hg', hgd, hpc, hw]
      refine ih (i + 1) hd' _ g H K (by omega) ?_ ?_ ?_ ?_ ?_ ?_
      · simp [h0]
      · simp [h1]
      · simp [h7]
      · simp
      · intro l' e; refine hr l' ?_; rw [e, List.takeWhile_cons, hpv]; simp; omega
      · intro l' e e0; refine he l' ?_ e0; rw [List.takeWhile_cons, hpv]; simp; omega
end Go.Proofs.YtlmiihdkgaljoaaGreatDoor
