/- Own work: the shadow machine and what it shows, part Sp2. -/
import Derived.Test.YtlmiihdkgaljoaaGreatDoorVal
import Derived.Test.YtlmiihdkgaljoaaGreatDoorPu
import Derived.Test.YtlmiihdkgaljoaaGreatDoorSp1
set_option linter.all false

namespace Go.Proofs.YtlmiihdkgaljoaaGreatDoor
open Go.Sh
set_option maxRecDepth 100000

/-! ## Kinds of bytes -/

theorem lex_letter (c : UInt8) (H : GH) : ecall T f_lex_letter [.int .u8 c.toNat] H = some (.bool (letter c), H) := by
  apply optW.eq
  rw [ecall_0 T_lex_letter rfl (by simp [F_lex_letter]), wp_fin1]
  rcases cls c with h | h | h | h | h | h | h | h
  all_goals
    obtain ⟨a0, a1, a2, a3, a4, a5, a6, al, an⟩ := h
    simp only [decide_eq_true_eq, decide_eq_false_iff_not] at a0 a1 a2 a3 a4 a5 a6
    simp [F_lex_letter, b_lex_letter, a0, a1, a2, a3, al]

theorem dig_cls {c : UInt8} : isDig c = (decide ((48 : Int) ≤ c.toNat) && decide ((c.toNat : Int) ≤ 57)) := by
  unfold isDig
  rw [Bool.eq_iff_iff]; simp; omega

theorem lex_digit (c : UInt8) (H : GH) : ecall T f_lex_digit [.int .u8 c.toNat] H = some (.bool (isDig c), H) := by
  apply optW.eq
  rw [ecall_0 T_lex_digit rfl (by simp [F_lex_digit]), wp_fin1, dig_cls]
  by_cases h1 : (48 : Int) ≤ c.toNat
  · by_cases h2 : (c.toNat : Int) ≤ 57 <;> simp [F_lex_digit, b_lex_digit, h1, h2]
  · simp [F_lex_digit, b_lex_digit, h1]

theorem lex_inner (c : UInt8) (H : GH) : ecall T f_lex_inner [.int .u8 c.toNat] H = some (.bool (inner c), H) := by
  apply optW.eq
  rw [ecall_0 T_lex_inner rfl (by simp [F_lex_inner]), wp_fin1]
  have hd := dig_cls (c := c)
  rcases cls c with h | h | h | h | h | h | h | h
  all_goals
    obtain ⟨a0, a1, a2, a3, a4, a5, a6, al, an⟩ := h
    rw [a4, a5] at hd
    simp only [decide_eq_true_eq, decide_eq_false_iff_not] at a0 a1 a2 a3 a4 a5 a6
    have hl := lex_letter c H
    have hdg := lex_digit c H
    rw [al] at hl
    rw [hd] at hdg
    simp at hdg
    first
      | (simp [F_lex_inner, b_lex_inner, hl, hdg, an, a6]; done)
      | (rw [a6] at hl hdg; have hn : c.toNat = 95 := by omega
         simp [F_lex_inner, b_lex_inner, hl, hdg, an, a6, hn])

/-! ## Looking into rows -/

theorem index_loop (w : ByteArray) (all : List ByteArray) (t : Tag) (hall : all.length ≤ 1000) (xs : List ByteArray) : ∀ (j : Nat) (_ : all.drop j = xs) (l : List GV) (g : Nat) (H : GH) (K : GExit × St → Prop)
    (_ : lget l 1 = .str w) (_ : lget l 0 = .sl 1 (all.map .str) t) (_ : lget l 7 = .int .i64 all.length) (_ : lget l 8 = .int .i64 j)
    (_ : ∀ (l' : List GV) (n : Nat), w ∈ xs → lget l' 4 = .int .i64 n → K (.ret, ⟨⟨l', g⟩, H⟩))
    (_ : ∀ (l' : List GV), ¬ w ∈ xs → K (.exit 0, ⟨⟨l', g⟩, H⟩)),
    optW (erun T (.loop L0_slices_Indexstringstring) ⟨⟨l, g⟩, H⟩) K := by
  induction xs with
  | nil =>
    intro j hd l g H K h1 h0 h7 h8 hr he
    have hle : all.length ≤ j := by simpa using hd
    have hge : ¬ ((j : Int) < all.length) := by omega
    have hge' : ¬ (j < all.length) := by omega
    rw [run_loop]
    simp [L0_slices_Indexstringstring, h7, h8, hge, hge']
    exact he _ (by simp)
  | cons x xs ih =>
    intro j hd l g H K h1 h0 h7 h8 hr he
    have hj : j < all.length := by
      rcases Nat.lt_or_ge j all.length with h1 | h1
      · exact h1
      · rw [List.drop_eq_nil_of_le h1] at hd; cases hd
    have hgv : all[j]? = some x := by
      have := congrArg (·[0]?) hd
      simpa using this
    have hd' : all.drop (j + 1) = xs := by
      have := congrArg List.tail hd
      simpa using this
    have hgd : ∀ h : j < all.length, all[j]'h = x := fun h => by rw [List.getElem?_eq_getElem h] at hgv; exact Option.some.inj hgv
    have hlt : (j : Int) < all.length := by omega
    have hix : gIx all.length (.int .i64 (j : Int)) = some j := by simp only [gIx]; rw [if_pos (by omega)]; simp
    have hw : IntKind.i64.wrap ((j : Int) + 1) = (j : Int) + 1 := wrap_i64' (by omega) (by omega)
    rw [run_loop, wp_seqK]
    by_cases hx : w = x
    · subst hx
      simp [L0_slices_Indexstringstring, h0, h1, h7, h8, hlt, hj, hix, hgv, hgd]
      exact hr _ j (by simp) (by simp)
    · simp [L0_slices_Indexstringstring, h0, h1, h7, h8, hlt, hj, hix, hgv, hgd, hx, hw]
      refine ih (j + 1) hd' _ _ H K ?_ ?_ ?_ ?_ ?_ ?_
      · simp [h1]
      · simp [h0]
      · simp [h7]
      · simp
      · intro l' n m1 m2; exact hr l' n (by simp [m1]) m2
      · intro l' m1; exact he l' (by simp [hx, m1])

def memB (w : ByteArray) (L : List ByteArray) : Bool := L.any fun x => decide (x = w)
theorem memB_iff {w : ByteArray} {L : List ByteArray} : memB w L = true ↔ w ∈ L := by simp [memB, List.any_eq_true]

theorem contains_ok (L : List ByteArray) (t : Tag) (w : ByteArray) (hL : L.length ≤ 1000) (H : GH) : ecall T f_slices_Containsstringstring [.sl 1 (L.map .str) t, .str w] H = some (.bool (memB w L), H) := by
  have hi : ∃ r : Int, ecall T f_slices_Indexstringstring [.sl 1 (L.map .str) t, .str w] H = some (.int .i64 r, H) ∧ (0 ≤ r ↔ w ∈ L) := by
    have key : optW (ecall T f_slices_Indexstringstring [.sl 1 (L.map .str) t, .str w] H) fun x => ∃ r : Int, x = (.int .i64 r, H) ∧ (0 ≤ r ↔ w ∈ L) := by
      rw [ecall_0 T_slices_Indexstringstring rfl (by simp [F_slices_Indexstringstring]), wp_fin1]
      simp only [F_slices_Indexstringstring, b_slices_Indexstringstring]
      simp
      rw [wp_seqK, wp_blockK]
      refine index_loop w L t hL L 0 rfl _ _ _ _ ?_ ?_ ?_ ?_ ?_ ?_
      · simp
      · simp
      · simp
      · simp
      · intro l' n m1 m2
        simp [m2, m1]
      · intro l' m1
        simp [m1]
    obtain ⟨v, h, r, rfl, h2⟩ := key
    exact ⟨r, h, h2⟩
  obtain ⟨r, h1, h2⟩ := hi
  apply optW.eq
  rw [ecall_0 T_slices_Containsstringstring rfl (by simp [F_slices_Containsstringstring]), wp_fin1]
  by_cases hr : 0 ≤ r
  · have hm : memB w L = true := memB_iff.2 (h2.1 hr)
    simp [F_slices_Containsstringstring, b_slices_Containsstringstring, h1, hr, hm]
  · have : memB w L = false := by
      rw [Bool.eq_false_iff]; exact fun h => hr (h2.2 (memB_iff.1 h))
    simp [F_slices_Containsstringstring, b_slices_Containsstringstring, h1, hr, this]

/-! ## How long a beginning is -/

theorem while_loop (s : ByteArray) (hs : s.size ≤ 100000) (f : Nat) (p : UInt8 → Bool) (hp : ∀ (c : UInt8) (H : GH), ecall T f [.int .u8 c.toNat] H = some (.bool (p c), H)) (cs : List UInt8) : ∀ (i : Nat) (_ : s.data.toList.drop i = cs) (l : List GV) (g : Nat) (H : GH) (K : GExit × St → Prop)
    (_ : i ≤ s.size) (_ : lget l 0 = .str s) (_ : lget l 1 = .func f [] []) (_ : lget l 7 = .int .i64 s.size) (_ : lget l 8 = .int .i64 i)
    (_ : ∀ (l' : List GV), lget l' 4 = .int .i64 ((i + (cs.takeWhile p).length : Nat) : Int) → K (.ret, ⟨⟨l', g⟩, H⟩))
    (_ : ∀ (l' : List GV), i + (cs.takeWhile p).length = s.size → lget l' 0 = .str s → K (.exit 0, ⟨⟨l', g⟩, H⟩)),
    optW (erun T (.loop L0_lex_while) ⟨⟨l, g⟩, H⟩) K := by
  have hsz := bs_size s
  induction cs with
  | nil =>
    intro i hd l g H K his h0 h1 h7 h8 hr he
    have hle := drop_none hd
    have hi : i = s.size := by omega
    subst hi
    rw [run_loop]
    simp [L0_lex_while, h0, h7, h8]
    exact he _ (by simp) (by simp [h0])
  | cons c cs ih =>
    intro i hd l g H K his h0 h1 h7 h8 hr he
    obtain ⟨hg, hi, hd'⟩ := drop_some hd
    have hlt : (i : Int) < s.size := by omega
    have hlt' : i < s.size := by omega
    have hix := ix_ok hlt
    have hw : IntKind.i64.wrap ((i : Int) + 1) = (i : Int) + 1 := wrap_i64' (by omega) (by omega)
    have hg' : s.data[i]? = some c := by simpa using hg
    have hgd : ∀ h : i < s.data.size, s.data[i]'h = c := fun h => by rw [Array.getElem?_eq_getElem h] at hg'; exact Option.some.inj hg'
    have hpc := hp c H
    rw [run_loop, wp_seqK]
    cases hpv : p c <;> rw [hpv] at hpc
    · simp [L0_lex_while, h0, h1, h7, h8, hlt, hlt', hix, str_get, hg', hgd, hpc]
      exact hr _ (by simp [hpv])
    · simp [L0_lex_while, h0, h1, h7, h8, hlt, hlt', hix, str_get, hg', hgd, hpc, hw]
      refine ih (i + 1) hd' _ g H K (by omega) ?_ ?_ ?_ ?_ ?_ ?_
      · simp [h0]
      · simp [h1]
      · simp [h7]
      · simp
      · intro l' e; refine hr l' ?_; rw [e, List.takeWhile_cons, hpv]; simp; omega
      · intro l' e e0; refine he l' ?_ e0; rw [List.takeWhile_cons, hpv]; simp; omega
end Go.Proofs.YtlmiihdkgaljoaaGreatDoor

namespace Go.Proofs.YtlmiihdkgaljoaaGreatDoor
open Go.Sh
set_option maxRecDepth 100000

/-! ## Tokens that are told, and read -/

def wordsB : List ByteArray := wordsL.map fun l => ⟨l.toArray⟩

theorem words_ok (H : GH) : ecall T f_lex_Words [] H = some (.sl 1 (wordsB.map .str) .exact, H) := ecall_iff.2 ⟨50, by kernel_rfl⟩

theorem mem_words (a : ByteArray) : a ∈ wordsB ↔ a.data.toList ∈ wordsL := by
  unfold wordsB
  rw [List.mem_map]
  constructor
  · rintro ⟨l, h, rfl⟩; simpa using h
  · intro h; exact ⟨_, h, ba_ext (by simp)⟩

theorem signs_map : signsB = signsL.map fun l => ⟨l.toArray⟩ := by decide
theorem mem_signs (a : ByteArray) : a ∈ signsB ↔ a.data.toList ∈ signsL := by
  rw [signs_map, List.mem_map]
  constructor
  · rintro ⟨l, h, rfl⟩; simpa using h
  · intro h; exact ⟨_, h, ba_ext (by simp)⟩

def tokG (k n : Int) (t : List UInt8) : GV := .agg [.int .i64 k, .int .i64 n, .str ⟨t.toArray⟩]

theorem while_ok (s : ByteArray) (hs : s.size ≤ 100000) (f : Nat) (p : UInt8 → Bool) (hp : ∀ (c : UInt8) (H : GH), ecall T f [.int .u8 c.toNat] H = some (.bool (p c), H)) (H : GH) : ecall T f_lex_while [.str s, .func f [] []] H = some (.int .i64 ((s.data.toList.takeWhile p).length : Int), H) := by
  apply optW.eq
  rw [ecall_0 T_lex_while rfl (by simp [F_lex_while]), wp_fin1]
  simp only [F_lex_while, b_lex_while]
  simp
  rw [wp_seqK, wp_blockK]
  refine while_loop s hs f p hp s.data.toList 0 rfl _ _ _ _ (by omega) ?_ ?_ ?_ ?_ ?_ ?_
  · simp
  · simp
  · simp
  · simp
  · intro l' e; simp [e]
  · intro l' e e0
    rw [Nat.zero_add] at e
    simp [e0]
    omega

theorem take_app {p : UInt8 → Bool} {w r : List UInt8} {x : UInt8} (hw : w.all p = true) (hx : p x = false) : (w ++ x :: r).takeWhile p = w := by
  induction w with
  | nil => simp [hx]
  | cons c w ih =>
    simp only [List.all_cons, Bool.and_eq_true] at hw
    simp [hw.1, ih hw.2]

theorem pre_slice {s : ByteArray} {w r : List UInt8} (h : s.data.toList = w ++ r) : gBounds s.size false true false [.int .i64 (w.length : Int)] = some (0, w.length, none) ∧ s.extract 0 w.length = ⟨w.toArray⟩ := by
  have hsz := bs_size s
  rw [h, List.length_append] at hsz
  have e1 : gBound s.size (.int .i64 (w.length : Int)) = some w.length := by simp only [gBound]; rw [if_pos (by omega)]; simp
  refine ⟨by simp [gBounds, e1], ?_⟩
  apply ba_ext
  rw [Lib.extract_data, h]; simp

theorem name_ok (s : ByteArray) (w r : List UInt8) (h : s.data.toList = w ++ 32 :: r) (hw : w.all inner = true) (hs : s.size ≤ 100000) (H : GH) :
    ecall T f_lex_name [.str s] H = some (.tup [tokG (if w ∈ wordsL then 2 else 1) 0 w, .int .i64 w.length, .bool (if w ∈ wordsL then true else nameL w)], H) := by
  have hwh := while_ok s hs 53 inner lex_inner H
  rw [h, take_app hw inner32] at hwh
  obtain ⟨hgb, hex⟩ := pre_slice h
  have hdt : (⟨w.toArray⟩ : ByteArray).data.toList = w := by simp
  have hc := contains_ok wordsB .exact ⟨w.toArray⟩ (by decide) H
  have hm := mem_words ⟨w.toArray⟩
  rw [hdt] at hm
  have hzw : (⟨w.toArray⟩ : ByteArray).size ≤ 9223372036854775807 := by
    rw [ba_size]
    have := bs_size s
    rw [h, List.length_append] at this
    omega
  have hn := value_Name ⟨w.toArray⟩ hzw H
  rw [hdt] at hn
  apply optW.eq
  rw [ecall_0 T_lex_name rfl (by simp [F_lex_name]), wp_fin1]
  simp only [F_lex_name, b_lex_name]
  by_cases hwm : w ∈ wordsL
  · have hmb : memB (⟨w.toArray⟩ : ByteArray) wordsB = true := memB_iff.2 (hm.2 hwm)
    simp [hwh, hgb, hex, words_ok, hc, hmb, hwm, gFill, setPart, tokG]
  · have hmb : memB (⟨w.toArray⟩ : ByteArray) wordsB = false := by
      rw [Bool.eq_false_iff]; exact fun h => hwm (hm.1 (memB_iff.1 h))
    simp [hwh, hgb, hex, words_ok, hc, hmb, hwm, hn, gFill, setPart, tokG]

theorem atoi_num (n : Int) (h1 : -1099511627776 ≤ n) (h2 : n ≤ 1099511627776) (H : GH) : ecall T f_strconv_Atoi [.str ⟨(Lib.itoa n).toArray⟩] H = some (.tup [.int .i64 n, .niliface], H) := by
  rw [ecall_lib T_strconv_Atoi (by decide) (by simp [F_strconv_Atoi])]
  have hz : (⟨(Lib.itoa n).toArray⟩ : ByteArray).size ≤ 281474976710656 := by rw [ba_size]; have := itoa_len n h1 h2; omega
  have hd : (⟨(Lib.itoa n).toArray⟩ : ByteArray).data.toList = Lib.itoa n := by simp
  simp only [libH, libP, lAtoi, F_strconv_Atoi, if_pos hz, hd, atoi_itoa n h1 h2]
  rfl

theorem number_ok (s : ByteArray) (n : Int) (r : List UInt8) (h0 : 0 ≤ n) (h1 : n ≤ 1099511627776) (h : s.data.toList = Lib.itoa n ++ 32 :: r) (hs : s.size ≤ 100000) (H : GH) :
    ecall T f_lex_number [.str s] H = some (.tup [tokG 3 n [], .int .i64 (Lib.itoa n).length, .bool true], H) := by
  have hit : Lib.itoa n = Lib.decDigits n.toNat := by unfold Lib.itoa; rw [if_neg (by omega)]
  have hall : (Lib.itoa n).all isDig = true := by rw [hit]; exact dec_dig _
  have hwh := while_ok s hs 27 isDig lex_digit H
  rw [h, take_app hall dig32] at hwh
  obtain ⟨hgb, hex⟩ := pre_slice h
  have hat := atoi_num n (by omega) h1 H
  obtain ⟨c, q, hcq⟩ : ∃ c q, Lib.itoa n = c :: q := by
    cases hh : Lib.itoa n with
    | nil => rw [hit] at hh; exact absurd hh (dec_ne _)
    | cons c q => exact ⟨c, q, rfl⟩
  have hsz := bs_size s
  have hix : gIx s.size (.int .i64 0) = some 0 := ix_ok (i := 0) (by rw [h, List.length_append] at hsz; simp at hsz; omega)
  have hg0 : s.data[0]? = some c := by
    have : s.data.toList[0]? = some c := by rw [h, hcq]; rfl
    simpa using this
  apply optW.eq
  rw [ecall_0 T_lex_number rfl (by simp [F_lex_number]), wp_fin1]
  simp only [F_lex_number, b_lex_number]
  by_cases hl1 : ((Lib.itoa n).length : Int) = 1
  · have hl1' : (Lib.itoa n).length = 1 := by omega
    rw [hl1, hl1'] at hgb
    rw [hl1'] at hex
    rw [hl1] at hwh
    simp [hwh, hgb, hex, hat, h1, hl1, hl1', gFill, setPart, tokG]
  · have hl1' : ¬ (Lib.itoa n).length = 1 := by omega
    have hq : q ≠ [] := by intro hq; rw [hcq, hq] at hl1'; simp at hl1'
    have hc48 := dec_head n.toNat c q (by rw [← hit]; exact hcq) hq
    have n48 : ¬ c.toNat = 48 := fun h => hc48 (UInt8.toNat_inj.1 h)
    have m48 : ¬ (c.toNat : Int) = 48 := by omega
    simp [hwh, hgb, hex, hat, h1, hl1, hl1', hix, str_get, hg0, n48, m48, gFill, setPart, tokG]
end Go.Proofs.YtlmiihdkgaljoaaGreatDoor

namespace Go.Proofs.YtlmiihdkgaljoaaGreatDoor
open Go.Sh
set_option maxRecDepth 100000

/-! ## A text between quotes -/

theorem text_loop (s : ByteArray) (hs : s.size ≤ 100000) (t r : List UInt8) (hr : rightV 3 0 t = true) (ht : t.length ≤ 200) (h : s.data.toList = (39 :: (quoL t ++ [39])) ++ r) (t' : List UInt8) : ∀ (i : Nat) (_ : s.data.toList.drop i = quoL t' ++ 39 :: r) (_ : i + (quoL t').length = (quoL t).length + 1) (l : List GV) (g : Nat) (H : GH) (K : GExit × St → Prop)
    (_ : lget l 0 = .str s) (_ : lget l 5 = .int .i64 i) (_ : lget l 2 = .lbox 0 [.int .i64 0, .int .i64 0, .str ⟨#[]⟩])
    (_ : ∀ (l' : List GV) (g' : Nat), lget l' 2 = .lbox 0 [.int .i64 4, .int .i64 0, .str ⟨t.toArray⟩] → lget l' 3 = .int .i64 (((quoL t).length + 2 : Nat) : Int) → lget l' 4 = .bool true → K (.ret, ⟨⟨l', g'⟩, H⟩)),
    optW (erun T (.loop L0_lex_text) ⟨⟨l, g⟩, H⟩) K := by
  have hsz := bs_size s
  have hql := quo_len t
  induction t' with
  | nil =>
    intro i hd hi l g H K h0 h5 h2 he
    simp only [quoL, List.nil_append, List.length_nil, Nat.add_zero] at hd hi
    obtain ⟨hg, hi2, hd'⟩ := drop_some hd
    have hlt : (i : Int) < s.size := by omega
    have hlt' : i < s.size := by omega
    have hix := ix_ok hlt
    have hg' : s.data[i]? = some 39 := by simpa using hg
    have hgd : ∀ h : i < s.data.size, s.data[i]'h = 39 := fun h => by rw [Array.getElem?_eq_getElem h] at hg'; exact Option.some.inj hg'
    have hw : IntKind.i64.wrap ((i : Int) + 1) = (i : Int) + 1 := wrap_i64' (by omega) (by omega)
    obtain ⟨hgb, hex⟩ := pre_slice h
    have hwl : (39 :: (quoL t ++ [39])).length = i + 1 := by simp; omega
    rw [hwl] at hgb hex
    have hc1 : ((i + 1 : Nat) : Int) = (i : Int) + 1 := by omega
    rw [hc1] at hgb
    have htx : txtV 3 0 t = 39 :: (quoL t ++ [39]) := by simp [txtV, hr, txtR]
    have hpt := parse_txt 3 0 t
    rw [htx, hr, if_pos rfl] at hpt
    have hp := value_Parse ⟨(39 :: (quoL t ++ [39])).toArray⟩ (by rw [ba_size, hwl]; omega) H
    have hdt : (⟨(39 :: (quoL t ++ [39])).toArray⟩ : ByteArray).data.toList = 39 :: (quoL t ++ [39]) := by simp
    rw [hdt, hpt] at hp
    simp only [opt3, val3] at hp
    obtain ⟨wB, hwB⟩ : ∃ wB : ByteArray, (⟨(39 :: (quoL t ++ [39])).toArray⟩ : ByteArray) = wB := ⟨_, rfl⟩
    rw [hwB] at hp hex
    rw [run_loop, wp_seqK]
    simp [L0_lex_text, h0, h2, h5, hlt, hlt', hix, str_get, hg', hgd, hw, hgb, hex, hp, setPart, gFill]
    refine he _ _ ?_ ?_ ?_
    · simp
    · simp; omega
    · simp
  | cons c t' ih =>
    intro i hd hi l g H K h0 h5 h2 he
    by_cases hc : c = 39 ∨ c = 92
    · have hq : quoL (c :: t') = 92 :: c :: quoL t' := by simp [quoL, hc]
      rw [hq] at hd hi
      simp only [List.cons_append, List.length_cons] at hd hi
      obtain ⟨hg, hi2, hd'⟩ := drop_some hd
      obtain ⟨hg2, hi3, hd2⟩ := drop_some hd'
      have hlt : (i : Int) < s.size := by omega
      have hlt' : i < s.size := by omega
      have hix := ix_ok hlt
      have hg' : s.data[i]? = some 92 := by simpa using hg
      have hgd : ∀ h : i < s.data.size, s.data[i]'h = 92 := fun h => by rw [Array.getElem?_eq_getElem h] at hg'; exact Option.some.inj hg'
      have hw : IntKind.i64.wrap ((i : Int) + 1) = (i : Int) + 1 := wrap_i64' (by omega) (by omega)
      have hw2 : IntKind.i64.wrap ((i : Int) + 1 + 1) = (i : Int) + 1 + 1 := wrap_i64' (by omega) (by omega)
      rw [run_loop, wp_seqK]
      simp [L0_lex_text, h0, h5, hlt, hlt', hix, str_get, hg', hgd, hw, hw2]
      refine ih (i + 2) hd2 (by omega) _ g H K ?_ ?_ ?_ ?_
      · simp [h0]
      · simp; omega
      · simp [h2]
      · exact he
    · have hn1 : ¬ c = 39 := fun h => hc (.inl h)
      have hn2 : ¬ c = 92 := fun h => hc (.inr h)
      have n1 : ¬ c.toNat = 39 := fun h => hn1 (UInt8.toNat_inj.1 h)
      have n2 : ¬ c.toNat = 92 := fun h => hn2 (UInt8.toNat_inj.1 h)
      have b1 : ¬ (c.toNat : Int) = 39 := by omega
      have b2 : ¬ (c.toNat : Int) = 92 := by omega
      have hq : quoL (c :: t') = c :: quoL t' := by simp [quoL, hn1, hn2]
      rw [hq] at hd hi
      simp only [List.cons_append, List.length_cons] at hd hi
      obtain ⟨hg, hi2, hd'⟩ := drop_some hd
      have hlt : (i : Int) < s.size := by omega
      have hlt' : i < s.size := by omega
      have hix := ix_ok hlt
      have hg' : s.data[i]? = some c := by simpa using hg
      have hgd : ∀ h : i < s.data.size, s.data[i]'h = c := fun h => by rw [Array.getElem?_eq_getElem h] at hg'; exact Option.some.inj hg'
      have hw : IntKind.i64.wrap ((i : Int) + 1) = (i : Int) + 1 := wrap_i64' (by omega) (by omega)
      rw [run_loop, wp_seqK]
      simp [L0_lex_text, h0, h5, hlt, hlt', hix, str_get, hg', hgd, hw, n1, n2, b1, b2]
      refine ih (i + 1) hd' (by omega) _ g H K ?_ ?_ ?_ ?_
      · simp [h0]
      · simp
      · simp [h2]
      · exact he

theorem text_ok (s : ByteArray) (hs : s.size ≤ 100000) (t r : List UInt8) (hr : rightV 3 0 t = true) (ht : t.length ≤ 200) (h : s.data.toList = (39 :: (quoL t ++ [39])) ++ r) (H : GH) :
    ecall T f_lex_text [.str s] H = some (.tup [tokG 4 0 t, .int .i64 (((quoL t).length + 2 : Nat) : Int), .bool true], H) := by
  apply optW.eq
  rw [ecall_0 T_lex_text rfl (by simp [F_lex_text]), wp_fin1]
  simp only [F_lex_text, b_lex_text]
  simp
  rw [wp_seqK, wp_blockK]
  refine text_loop s hs t r hr ht h t 1 (by rw [h]; simp) (by omega) _ _ _ _ ?_ ?_ ?_ ?_
  · simp
  · simp
  · simp
  · intro l' g' e2 e3 e4
    simp [e2, e3, e4, tokG]

/-! ## Signs ahead of a blank -/

theorem fold_sign (s : ByteArray) (x r : List UInt8) (hx : x ∈ signsL) (h : s.data.toList = x ++ 32 :: r) : signsB.foldl (bst s) ⟨#[]⟩ = ⟨x.toArray⟩ := by
  have z0 : (⟨#[]⟩ : ByteArray).size = 0 := rfl
  have z1 : ∀ a, (⟨#[a]⟩ : ByteArray).size = 1 := fun _ => rfl
  have z2 : ∀ a b, (⟨#[a, b]⟩ : ByteArray).size = 2 := fun _ _ => rfl
  simp only [signsL, List.mem_cons, List.not_mem_nil, or_false] at hx
  rcases hx with rfl | rfl | rfl | rfl | rfl | rfl | rfl | rfl | rfl | rfl | rfl | rfl | rfl | rfl | rfl | rfl | rfl | rfl | rfl | rfl
  all_goals
    simp only [List.cons_append, List.nil_append] at h
    simp [signsB, bst, pre, h, List.isPrefixOf, z0, z1, z2]

/-! ## The next token -/

theorem dig_notletter {c : UInt8} (h : isDig c = true) : letter c = false := by
  unfold isDig at h
  unfold letter
  simp at h ⊢
  omega

theorem next_ok (s : ByteArray) (hs : s.size ≤ 100000) (k n : Int) (t r : List UInt8) (hok : tokOk k n t = true) (ht : t.length ≤ 200) (h : s.data.toList = tokText k n t ++ 32 :: r) (H : GH) :
    (∃ c q, tokText k n t = c :: q ∧ c ≠ 32) ∧ ecall T f_lex_next [.str s] H = some (.tup [tokG k n t, .int .i64 (tokText k n t).length, .bool true], H) := by
  have hsz := bs_size s
  have first : ∀ c q, tokText k n t = c :: q → gIx s.size (.int .i64 0) = some 0 ∧ s.data[0]? = some c := by
    intro c q hcq
    rw [h, hcq, List.length_append] at hsz
    refine ⟨ix_ok (i := 0) (by simp at hsz; omega), ?_⟩
    have : s.data.toList[0]? = some c := by rw [h, hcq]; rfl
    simpa using this
  unfold tokOk at hok
  split at hok
  · rename_i hk
    subst hk
    have htt : tokText 1 n t = t := by simp [tokText]
    rw [htt] at h first ⊢
    simp only [Bool.and_eq_true, decide_eq_true_eq, Bool.not_eq_true', decide_eq_false_iff_not] at hok
    obtain ⟨⟨hn, hnm⟩, hnw⟩ := hok
    subst hn
    have hnm2 := hnm
    unfold nameL at hnm2
    simp only [Bool.and_eq_true, decide_eq_true_eq] at hnm2
    obtain ⟨⟨hl, hhd⟩, hall⟩ := hnm2
    cases t with
    | nil => simp at hl
    | cons c q =>
      have hlet : letter c = true := hhd
      obtain ⟨hix, hg0⟩ := first c q rfl
      have hno := name_ok s (c :: q) r h hall hs H
      rw [if_neg hnw, if_neg hnw, hnm] at hno
      have hll := lex_letter c H
      rw [hlet] at hll
      refine ⟨⟨c, q, rfl, by rintro rfl; revert hlet; decide⟩, ?_⟩
      apply optW.eq
      rw [ecall_0 T_lex_next rfl (by simp [F_lex_next]), wp_fin1]
      simp only [tokG] at hno ⊢
      simp [F_lex_next, b_lex_next, hix, str_get, hg0, hll, hno, setPart]
  · split at hok
    · rename_i hk
      subst hk
      have htt : tokText 2 n t = t := by simp [tokText]
      rw [htt] at h first ⊢
      simp only [Bool.and_eq_true, decide_eq_true_eq] at hok
      obtain ⟨hn, hw⟩ := hok
      subst hn
      have hwa := List.all_eq_true.1 words_all t hw
      simp only [Bool.and_eq_true] at hwa
      obtain ⟨hall, hhd⟩ := hwa
      cases t with
      | nil => cases hhd
      | cons c q =>
        have hlet : letter c = true := hhd
        obtain ⟨hix, hg0⟩ := first c q rfl
        have hno := name_ok s (c :: q) r h hall hs H
        rw [if_pos hw, if_pos hw] at hno
        have hll := lex_letter c H
        rw [hlet] at hll
        refine ⟨⟨c, q, rfl, by rintro rfl; revert hlet; decide⟩, ?_⟩
        apply optW.eq
        rw [ecall_0 T_lex_next rfl (by simp [F_lex_next]), wp_fin1]
        simp only [tokG] at hno ⊢
        simp [F_lex_next, b_lex_next, hix, str_get, hg0, hll, hno, setPart]
    · split at hok
      · rename_i hk
        subst hk
        simp only [Bool.and_eq_true, decide_eq_true_eq] at hok
        obtain ⟨⟨hte, h0⟩, h1⟩ := hok
        subst hte
        have htt : tokText 3 n [] = Lib.itoa n := by simp [tokText]
        rw [htt] at h first ⊢
        have hit : Lib.itoa n = Lib.decDigits n.toNat := by unfold Lib.itoa; rw [if_neg (by omega)]
        obtain ⟨c, q, hcq⟩ : ∃ c q, Lib.itoa n = c :: q := by
          cases hh : Lib.itoa n with
          | nil => rw [hit] at hh; exact absurd hh (dec_ne _)
          | cons c q => exact ⟨c, q, rfl⟩
        have hdig : isDig c = true := by
          have := dec_dig n.toNat
          rw [← hit, hcq] at this
          simp only [List.all_cons, Bool.and_eq_true] at this
          exact this.1
        obtain ⟨hix, hg0⟩ := first c q hcq
        have hno := number_ok s n r h0 h1 h hs H
        have hll := lex_letter c H
        rw [dig_notletter hdig] at hll
        have hdd := lex_digit c H
        rw [hdig] at hdd
        refine ⟨⟨c, q, hcq, by rintro rfl; revert hdig; decide⟩, ?_⟩
        apply optW.eq
        rw [ecall_0 T_lex_next rfl (by simp [F_lex_next]), wp_fin1]
        simp only [tokG] at hno ⊢
        simp [F_lex_next, b_lex_next, hix, str_get, hg0, hll, hdd, hno, setPart]
      · split at hok
        · rename_i hk
          subst hk
          simp only [Bool.and_eq_true, decide_eq_true_eq] at hok
          obtain ⟨hn, hr⟩ := hok
          subst hn
          have htt : tokText 4 0 t = 39 :: (quoL t ++ [39]) := by simp [tokText, txtV, hr, txtR]
          rw [htt] at h first ⊢
          obtain ⟨hix, hg0⟩ := first 39 _ rfl
          have hno := text_ok s hs t (32 :: r) hr ht h H
          have hll := lex_letter 39 H
          have hdd := lex_digit 39 H
          have e1 : letter 39 = false := by decide
          have e2 : isDig 39 = false := by decide
          have e3 : ((39 : UInt8).toNat : Int) = 39 := rfl
          rw [e1, e3] at hll
          rw [e2, e3] at hdd
          have hlen : (39 :: (quoL t ++ [39])).length = (quoL t).length + 2 := by simp
          refine ⟨⟨39, _, rfl, by decide⟩, ?_⟩
          rw [hlen]
          apply optW.eq
          rw [ecall_0 T_lex_next rfl (by simp [F_lex_next]), wp_fin1]
          simp only [tokG] at hno ⊢
          simp [F_lex_next, b_lex_next, hix, str_get, hg0, hll, hdd, hno, setPart]
        · split at hok
          · rename_i h1 h2 h3 h4 hk
            subst hk
            have htt : tokText 5 n t = t := by simp [tokText]
            rw [htt] at h first ⊢
            simp only [Bool.and_eq_true, decide_eq_true_eq] at hok
            obtain ⟨hn, hsg⟩ := hok
            subst hn
            have hsa := List.all_eq_true.1 signs_all t hsg
            cases t with
            | nil => cases hsa
            | cons c q =>
              simp only [Bool.and_eq_true, Bool.not_eq_true', decide_eq_false_iff_not] at hsa
              obtain ⟨⟨⟨hl, hd⟩, h39⟩, h32⟩ := hsa
              obtain ⟨hix, hg0⟩ := first c q rfl
              have hso := sign_ok s H
              rw [fold_sign s (c :: q) r hsg h] at hso
              have hne : ¬ (⟨(c :: q).toArray⟩ : ByteArray) = ⟨#[]⟩ := by
                intro he
                have := congrArg (fun b : ByteArray => b.data.toList) he
                simp at this
              simp only [hne, not_false_eq_true, decide_true, ba_size] at hso
              have hll := lex_letter c H
              rw [hl] at hll
              have hdd := lex_digit c H
              rw [hd] at hdd
              have n39 : ¬ c.toNat = 39 := fun h => h39 (UInt8.toNat_inj.1 h)
              have m39 : ¬ (c.toNat : Int) = 39 := by omega
              obtain ⟨xB, hxB⟩ : ∃ xB : ByteArray, (⟨(c :: q).toArray⟩ : ByteArray) = xB := ⟨_, rfl⟩
              refine ⟨⟨c, q, rfl, h32⟩, ?_⟩
              apply optW.eq
              rw [ecall_0 T_lex_next rfl (by simp [F_lex_next]), wp_fin1]
              simp only [tokG] at ⊢
              rw [hxB] at hso ⊢
              simp [F_lex_next, b_lex_next, hix, str_get, hg0, hll, hdd, n39, m39, hso, setPart]
          · cases hok
end Go.Proofs.YtlmiihdkgaljoaaGreatDoor

namespace Go.Proofs.YtlmiihdkgaljoaaGreatDoor
open Go.Sh
set_option maxRecDepth 100000

/-! ## Blanks ahead are taken off -/

theorem trim_loop (n : Nat) (q : List UInt8) (hq : q.head? ≠ some 32) : ∀ (s : ByteArray) (_ : s.data.toList = List.replicate n 32 ++ q) (l : List GV) (g : Nat) (H : GH) (K : GExit × St → Prop)
    (_ : lget l 0 = .str s) (_ : lget l 1 = .int .u8 32)
    (_ : ∀ (l' : List GV) (s' : ByteArray), s'.data.toList = q → lget l' 0 = .str s' → K (.exit 0, ⟨⟨l', g⟩, H⟩)),
    optW (erun T (.loop L0_strings_trimLeftByte) ⟨⟨l, g⟩, H⟩) K := by
  induction n with
  | zero =>
    intro s hs l g H K h0 h1 he
    simp only [List.replicate_zero, List.nil_append] at hs
    have hsz := bs_size s
    rw [hs] at hsz
    cases q with
    | nil =>
      have hs0 : s.size = 0 := hsz
      have hge : ¬ ((0 : Int) < s.size) := by omega
      have hge' : ¬ (0 < s.size) := by omega
      rw [run_loop]
      simp [L0_strings_trimLeftByte, h0, hge, hge']
      exact he _ s hs (by simp [h0])
    | cons c q =>
      have hc : ¬ c = 32 := fun h => hq (by rw [h]; rfl)
      have n1 : ¬ c.toNat = 32 := fun h => hc (UInt8.toNat_inj.1 h)
      have m1 : ¬ (c.toNat : Int) = 32 := by omega
      have hs1 : s.size = q.length + 1 := hsz
      have hp : (0 : Int) < s.size := by omega
      have hp' : 0 < s.size := by omega
      have hix : gIx s.size (.int .i64 0) = some 0 := ix_ok (i := 0) (by omega)
      have hg0 : s.data[0]? = some c := by
        have : s.data.toList[0]? = some c := by rw [hs]; rfl
        simpa using this
      have hgd : ∀ h : 0 < s.data.size, s.data[0]'h = c := fun h => by rw [Array.getElem?_eq_getElem h] at hg0; exact Option.some.inj hg0
      rw [run_loop]
      simp [L0_strings_trimLeftByte, h0, h1, hp, hp', hix, str_get, hg0, hgd, n1, m1]
      exact he _ s hs (by simp [h0])
  | succ n ih =>
    intro s hs l g H K h0 h1 he
    have hs1 : s.data.toList = 32 :: (List.replicate n 32 ++ q) := by rw [hs]; rfl
    have hsz := bs_size s
    rw [hs1] at hsz
    simp only [List.length_cons] at hsz
    have hp : (0 : Int) < s.size := by omega
    have hp' : 0 < s.size := by omega
    have hix : gIx s.size (.int .i64 0) = some 0 := ix_ok (i := 0) (by omega)
    have hg0 : s.data[0]? = some 32 := by
      have : s.data.toList[0]? = some 32 := by rw [hs1]; rfl
      simpa using this
    have hgd : ∀ h : 0 < s.data.size, s.data[0]'h = 32 := fun h => by rw [Array.getElem?_eq_getElem h] at hg0; exact Option.some.inj hg0
    have e1 : gBound s.size (.int .i64 1) = some 1 := by simp only [gBound]; rw [if_pos (by omega)]; rfl
    have hgb : gBounds s.size true false false [.int .i64 1] = some (1, s.size, none) := by simp [gBounds, e1]
    have hx : (s.extract 1 s.size).data.toList = List.replicate n 32 ++ q := by
      rw [Lib.extract_data, hs1, List.drop_one, List.tail_cons, List.take_of_length_le (by omega)]
    rw [run_loop, wp_seqK]
    simp [L0_strings_trimLeftByte, h0, h1, hp, hp', hix, str_get, hg0, hgd, hgb]
    refine ih (s.extract 1 s.size) hx _ g H K ?_ ?_ ?_
    · simp
    · simp [h1]
    · exact he

theorem trim_ok (n : Nat) (q : List UInt8) (hq : q.head? ≠ some 32) (s : ByteArray) (hs : s.data.toList = List.replicate n 32 ++ q) (H : GH) :
    ∃ s', s'.data.toList = q ∧ ecall T f_strings_TrimLeft [.str s, .str ⟨#[32]⟩] H = some (.str s', H) := by
  by_cases h0 : s = ⟨#[]⟩
  · have h1 : s.data.toList = [] := by rw [h0]
    have hqn : q = [] := by
      rw [hs] at h1
      exact (List.append_eq_nil_iff.1 h1).2
    refine ⟨s, by rw [h1, hqn], ?_⟩
    apply optW.eq
    rw [ecall_0 T_strings_TrimLeft rfl (by simp [F_strings_TrimLeft]), wp_fin1]
    simp [F_strings_TrimLeft, b_strings_TrimLeft, h0]
  · have hb : ∃ s', s'.data.toList = q ∧ ecall T f_strings_trimLeftByte [.str s, .int .u8 32] H = some (.str s', H) := by
      have key : optW (ecall T f_strings_trimLeftByte [.str s, .int .u8 32] H) fun r => ∃ s', s'.data.toList = q ∧ r = (.str s', H) := by
        rw [ecall_0 T_strings_trimLeftByte rfl (by simp [F_strings_trimLeftByte]), wp_fin1]
        simp only [F_strings_trimLeftByte, b_strings_trimLeftByte]
        simp
        rw [wp_seqK, wp_blockK]
        refine trim_loop n q hq s hs _ _ _ _ ?_ ?_ ?_
        · simp
        · simp
        · intro l' s' e1 e2
          simp [e2, e1]
      obtain ⟨v, h, s', h1, rfl⟩ := key
      exact ⟨s', h1, h⟩
    obtain ⟨s', h1, h2⟩ := hb
    refine ⟨s', h1, ?_⟩
    have hz : (⟨#[32]⟩ : ByteArray).size = 1 := rfl
    have hn2 : (⟨#[32]⟩ : ByteArray) ≠ ⟨#[]⟩ := by decide
    have hix1 : gIx 1 (.int .i64 0) = some 0 := by decide
    apply optW.eq
    rw [ecall_0 T_strings_TrimLeft rfl (by simp [F_strings_TrimLeft]), wp_fin1]
    simp [F_strings_TrimLeft, b_strings_TrimLeft, h0, hz, hn2, hix1, str_get, h2]

/-! ## Tokens of texts with blanks ahead -/

def tkG (v : Tk) : GV := tokG v.1 v.2.1 v.2.2

/-- Texts, with blanks ahead of each. -/
def wideL : List (Nat × Tk) → List UInt8
  | [] => []
  | (n, v) :: r => List.replicate n 32 ++ (tkText v ++ wideL r)

theorem wide_head (bl : List (Nat × Tk)) (h : ∀ b ∈ bl, 1 ≤ b.1) (p : Nat) (hp : 1 ≤ p) : ∃ r, wideL bl ++ List.replicate p 32 = 32 :: r := by
  cases bl with
  | nil =>
    obtain ⟨q, rfl⟩ : ∃ q, p = q + 1 := ⟨p - 1, by omega⟩
    exact ⟨List.replicate q 32, rfl⟩
  | cons b bl =>
    obtain ⟨n, v⟩ := b
    have := h (n, v) (by simp)
    obtain ⟨q, rfl⟩ : ∃ q, n = q + 1 := ⟨n - 1, by simp at this; omega⟩
    exact ⟨_, rfl⟩

theorem blocks_loop (p : Nat) (hp : 1 ≤ p) (bl : List (Nat × Tk)) : ∀ (_ : ∀ b ∈ bl, 1 ≤ b.1 ∧ tkOk b.2 = true ∧ b.2.2.2.length ≤ 200) (s : ByteArray) (_ : s.size ≤ 100000) (_ : s.data.toList = wideL bl ++ List.replicate p 32) (l : List GV) (g : Nat) (H : GH) (K : GExit × St → Prop) (done : List Tk) (o : GV)
    (_ : lget l 0 = .str s) (_ : lget l 4 = o) (_ : App H 3 o (done.map tkG)) (_ : H.bt ≤ H.toks.length) (_ : done.length + bl.length ≤ 5000)
    (_ : ∀ (l' : List GV) (g' : Nat) (H' : GH) (o' : GV), lget l' 2 = o' → lget l' 3 = .int .i64 0 → App H' 3 o' ((done ++ bl.map (·.2)).map tkG) → K (.ret, ⟨⟨l', g'⟩, H'⟩)),
    optW (erun T (.loop L0_lex_Tokens) ⟨⟨l, g⟩, H⟩) K := by
  induction bl with
  | nil =>
    intro hbl s hss hs l g H K done o h0 h4 hA hbt hk he
    obtain ⟨s', e1, ht⟩ := trim_ok p [] (by simp) s (by rw [hs]; simp [wideL]) H
    have hse : s' = ⟨#[]⟩ := ba_ext (by rw [e1])
    subst hse
    rw [run_loop]
    simp [L0_lex_Tokens, h0, ht, h4, App.unbox hA]
    exact he _ _ H o (by simp) (by simp) (by simpa using hA)
  | cons b bl ih =>
    intro hbl s hss hs l g H K done o h0 h4 hA hbt hk he
    obtain ⟨n, k, m, t⟩ := b
    obtain ⟨hn, hok, ht⟩ := hbl (n, k, m, t) (by simp)
    obtain ⟨r, hr⟩ := wide_head bl (fun b hb => (hbl b (by simp [hb])).1) p hp
    have hq : (tokText k m t ++ (wideL bl ++ List.replicate p 32)) = tokText k m t ++ 32 :: r := by rw [hr]
    have hsl : s.data.toList = List.replicate n 32 ++ (tokText k m t ++ 32 :: r) := by
      rw [hs, ← hq]; simp [wideL, tkText]
    have hszs := bs_size s
    rw [hsl, List.length_append, List.length_append] at hszs
    have hbig : ∀ s' : ByteArray, s'.data.toList = tokText k m t ++ 32 :: r → s'.size ≤ 100000 := by
      intro s' e
      rw [bs_size, e, List.length_append]; omega
    -- the text's head is no blank
    have hnb : (tokText k m t ++ 32 :: r).head? ≠ some 32 := by
      have := (next_ok ⟨(tokText k m t ++ 32 :: r).toArray⟩ (hbig _ (by simp)) k m t r hok ht (by simp) H).1
      obtain ⟨c, q, hcq, hc⟩ := this
      rw [hcq]
      simpa using hc
    obtain ⟨s', e1, htr⟩ := trim_ok n _ hnb s hsl H
    obtain ⟨⟨c, q, hcq, hc⟩, hnx⟩ := next_ok s' (hbig s' e1) k m t r hok ht e1 H
    have hne : ¬ s' = ⟨#[]⟩ := by
      intro h
      rw [h, hcq] at e1
      cases e1
    have hs'z := bs_size s'
    rw [e1, List.length_append] at hs'z
    have hgb1 : gBound s'.size (.int .i64 ((tokText k m t).length : Int)) = some (tokText k m t).length := by simp only [gBound]; rw [if_pos (by omega)]; simp
    have hgb : gBounds s'.size true false false [.int .i64 ((tokText k m t).length : Int)] = some ((tokText k m t).length, s'.size, none) := by simp [gBounds, hgb1]
    have hx : (s'.extract (tokText k m t).length s'.size).data.toList = wideL bl ++ List.replicate p 32 := by
      rw [Lib.extract_data, e1, hr, List.drop_left, List.take_of_length_le (by omega)]
    have hxz : (s'.extract (tokText k m t).length s'.size).size ≤ 100000 := by
      rw [bs_size, hx, hr]; omega
    simp only [List.length_cons] at hk
    obtain ⟨o', H', hap, hA', hstep, _⟩ := append_ok (ty := 30) (bytes := 32) (x := .sl 3 [tokG k m t] .exact) (ys := [tokG k m t]) hA (by simp [gNews]) hbt (by simp [room]; omega) (by simp [maxLen]; omega)
    have hbt' : H'.bt ≤ H'.toks.length := hstep.btle hbt
    have hmm : done.map tkG ++ [tokG k m t] = (done ++ [(k, m, t)]).map tkG := by simp [tkG]
    rw [hmm] at hA'
    simp only [tokG] at hnx hap
    rw [run_loop, wp_seqK]
    simp [L0_lex_Tokens, h0, htr, hne, hnx, setPart, h4, App.unbox hA, App.unbox hA', gSetAll, hap, hgb]
    refine ih (fun b hb => hbl b (by simp [hb])) _ hxz hx _ _ H' K (done ++ [(k, m, t)]) o' ?_ ?_ hA' hbt' (by simp; omega) ?_
    · simp
    · simp
    · intro l' g' H2 o2 f2 f3 f4
      exact he l' g' H2 o2 f2 f3 (by simpa using f4)

theorem clean_tks (a b n : Nat) (L : List Tk) : (L.map tkG).mapM (clean a b (n + 2)) = some (L.map tkG) := by
  induction L with
  | nil => rfl
  | cons v L ih =>
    have h1 : clean a b (n + 2) (tkG v) = some (tkG v) := rfl
    rw [List.map_cons, List.mapM_cons, h1, ih]; rfl

theorem tokens_blocks (s : ByteArray) (hs : s.size ≤ 2000) (p : Nat) (hp : 1 ≤ p) (bl : List (Nat × Tk)) (hbl : ∀ b ∈ bl, 1 ≤ b.1 ∧ tkOk b.2 = true ∧ b.2.2.2.length ≤ 200) (hl : bl.length ≤ 100) (h : s.data.toList = wideL bl ++ List.replicate p 32) (H : GH) :
    ∃ v, Elems 3 v ((bl.map (·.2)).map tkG) ∧ ecall T f_lex_Tokens [.str s] H = some (.tup [v, .int .i64 0], H) := by
  have h20 : ¬ ((2000 : Int) < s.size) := by omega
  have h20' : ¬ (2000 < s.size) := by omega
  have key : optW (ecall T f_lex_Tokens [.str s] H) fun r => ∃ v, Elems 3 v ((bl.map (·.2)).map tkG) ∧ r = (.tup [v, .int .i64 0], H) := by
    rw [ecall_1 T_lex_Tokens rfl (by simp [F_lex_Tokens]), wp_fin1]
    simp only [F_lex_Tokens, b_lex_Tokens]
    simp [h20, h20']
    rw [wp_blockK]
    refine blocks_loop p hp bl hbl s (by omega) h _ _ _ _ [] .nilsl ?_ ?_ .nil (Nat.le_refl _) (by simp; omega) ?_
    · simp
    · simp
    · intro l' g' H' o' f2 f3 f4
      rw [List.nil_append] at f4
      have hok := f4.ok
      have hcl : ∃ v, Elems 3 v ((bl.map (·.2)).map tkG) ∧ clean H.objs.length H.toks.length 100 (.tup [o', .int .i64 0]) = some (.tup [v, .int .i64 0]) := by
        generalize hxs : (bl.map (·.2)).map tkG = xs at f4 ⊢
        have hcr : ∀ n, xs.mapM (clean H.objs.length H.toks.length (n + 2)) = some xs := fun n => by rw [← hxs]; exact clean_tks _ _ n _
        cases f4 with
        | nil => exact ⟨.nilsl, .nil, clean_tup2 (n := 99) rfl rfl⟩
        | exact =>
          obtain ⟨t, ht⟩ := clean_sl (sz := 3) (tag := .exact) (hcr 96)
          exact ⟨_, .sl _ t, clean_tup2 (n := 99) ht rfl⟩
        | tok _ _ _ =>
          obtain ⟨t, ht⟩ := clean_sl (sz := 3) (tag := .tok _ _ _) (hcr 96)
          exact ⟨_, .sl _ t, clean_tup2 (n := 99) ht rfl⟩
      obtain ⟨v, hE, hcv⟩ := hcl
      simp only [List.map_map] at hE
      simp [f2, f3, hok, hcv]
      exact hE
  obtain ⟨x, h, v, hv, rfl⟩ := key
  exact ⟨v, hv, h⟩
end Go.Proofs.YtlmiihdkgaljoaaGreatDoor
