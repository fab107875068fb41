/- Own work, over the shadow machine: LSpec6. -/
import Derived.Test.YtlmiihdkgaljoaaGreatDoorSp5
import Derived.Test.YtlmiihdkgaljoaaGreatDoorSp3
set_option linter.all false
namespace Go.Proofs.YtlmiihdkgaljoaaGreatDoor
open Go.Sh
set_option maxRecDepth 100000

/-! ## Tokens that are told, and read -/

def wordsL : List (List UInt8) := [[77, 65, 84, 67, 72], [79, 80, 84, 73, 79, 78, 65, 76], [87, 72, 69, 82, 69], [82, 69, 84, 85, 82, 78], [68, 73, 83, 84, 73, 78, 67, 84], [79, 82, 68, 69, 82], [66, 89], [68, 69, 83, 67], [83, 75, 73, 80], [76, 73, 77, 73, 84], [67, 82, 69, 65, 84, 69], [83, 69, 84], [82, 69, 77, 79, 86, 69], [68, 69, 76, 69, 84, 69], [65, 78, 68], [79, 82], [78, 79, 84], [73, 83], [78, 85, 76, 76], [84, 82, 85, 69], [70, 65, 76, 83, 69], [67, 79, 85, 78, 84], [83, 85, 77], [77, 73, 78], [77, 65, 88], [77, 65, 78, 89]]
def signsL : List (List UInt8) := [[40], [41], [91], [93], [58], [44], [46], [46, 46], [45], [45, 62], [60, 45], [61], [60, 62], [60], [60, 61], [62], [62, 61], [43], [42], [64]]
def wordsB : List ByteArray := wordsL.map fun l => ⟨l.toArray⟩

theorem words_ok (H : GH) : ecall T f_lex_Words [] H = some (.sl 1 (wordsB.map .str) .exact, H) := ecall_iff.2 ⟨50, by kernel_rfl⟩

theorem mem_words (a : ByteArray) : a ∈ wordsB ↔ a.data.toList ∈ wordsL := by
  unfold wordsB
  rw [List.mem_map]
  constructor
  · rintro ⟨l, h, rfl⟩; simpa using h
  · intro h; exact ⟨_, h, ba_ext (by simp)⟩

theorem signs_map : signsB = signsL.map fun l => ⟨l.toArray⟩ := by decide
theorem mem_signs (a : ByteArray) : a ∈ signsB ↔ a.data.toList ∈ signsL := by
  rw [signs_map, List.mem_map]
  constructor
  · rintro ⟨l, h, rfl⟩; simpa using h
  · intro h; exact ⟨_, h, ba_ext (by simp)⟩

def tokText (k n : Int) (t : List UInt8) : List UInt8 := if k = 3 then Lib.itoa n else if k = 4 then txtV 3 0 t else t
def tokOk (k n : Int) (t : List UInt8) : Bool :=
  if k = 1 then decide (n = 0) && nameL t && !decide (t ∈ wordsL)
  else if k = 2 then decide (n = 0) && decide (t ∈ wordsL)
  else if k = 3 then decide (t = []) && decide (0 ≤ n) && decide (n ≤ 1099511627776)
  else if k = 4 then decide (n = 0) && rightV 3 0 t
  else if k = 5 then decide (n = 0) && decide (t ∈ signsL)
  else false
def tokG (k n : Int) (t : List UInt8) : GV := .agg [.int .i64 k, .int .i64 n, .str ⟨t.toArray⟩]

theorem while_ok (s : ByteArray) (hs : s.size ≤ 100000) (f : Nat) (p : UInt8 → Bool) (hp : ∀ (c : UInt8) (H : GH), ecall T f [.int .u8 c.toNat] H = some (.bool (p c), H)) (H : GH) : ecall T f_lex_while [.str s, .func f [] []] H = some (.int .i64 ((s.data.toList.takeWhile p).length : Int), H) := by
  apply optW.eq
  rw [ecall_0 T_lex_while rfl (by simp [F_lex_while]), wp_fin1]
  simp only [F_lex_while, b_lex_while]
  simp
  rw [wp_seqK, wp_blockK]
  refine while_loop s hs f p hp s.data.toList 0 rfl _ _ _ _ (by omega) ?_ ?_ ?_ ?_ ?_ ?_
  · simp
  · simp
  · simp
  · simp
  · intro l' e; simp [e]
  · intro l' e e0
    rw [Nat.zero_add] at e
    simp [e0]
    omega

theorem take_app {p : UInt8 → Bool} {w r : List UInt8} {x : UInt8} (hw : w.all p = true) (hx : p x = false) : (w ++ x :: r).takeWhile p = w := by
  induction w with
  | nil => simp [hx]
  | cons c w ih =>
    simp only [List.all_cons, Bool.and_eq_true] at hw
    simp [hw.1, ih hw.2]

theorem pre_slice {s : ByteArray} {w r : List UInt8} (h : s.data.toList = w ++ r) : gBounds s.size false true false [.int .i64 (w.length : Int)] = some (0, w.length, none) ∧ s.extract 0 w.length = ⟨w.toArray⟩ := by
  have hsz := bs_size s
  rw [h, List.length_append] at hsz
  have e1 : gBound s.size (.int .i64 (w.length : Int)) = some w.length := by simp only [gBound]; rw [if_pos (by omega)]; simp
  refine ⟨by simp [gBounds, e1], ?_⟩
  apply ba_ext
  rw [Lib.extract_data, h]; simp

theorem inner32 : inner 32 = false := by decide
theorem dig32 : isDig 32 = false := by decide

theorem name_ok (s : ByteArray) (w r : List UInt8) (h : s.data.toList = w ++ 32 :: r) (hw : w.all inner = true) (hs : s.size ≤ 100000) (H : GH) :
    ecall T f_lex_name [.str s] H = some (.tup [tokG (if w ∈ wordsL then 2 else 1) 0 w, .int .i64 w.length, .bool (if w ∈ wordsL then true else nameL w)], H) := by
  have hwh := while_ok s hs 53 inner lex_inner H
  rw [h, take_app hw inner32] at hwh
  obtain ⟨hgb, hex⟩ := pre_slice h
  have hdt : (⟨w.toArray⟩ : ByteArray).data.toList = w := by simp
  have hc := contains_ok wordsB .exact ⟨w.toArray⟩ (by decide) H
  have hm := mem_words ⟨w.toArray⟩
  rw [hdt] at hm
  have hzw : (⟨w.toArray⟩ : ByteArray).size ≤ 9223372036854775807 := by
    rw [ba_size]
    have := bs_size s
    rw [h, List.length_append] at this
    omega
  have hn := value_Name ⟨w.toArray⟩ hzw H
  rw [hdt] at hn
  apply optW.eq
  rw [ecall_0 T_lex_name rfl (by simp [F_lex_name]), wp_fin1]
  simp only [F_lex_name, b_lex_name]
  by_cases hwm : w ∈ wordsL
  · have hmb : memB (⟨w.toArray⟩ : ByteArray) wordsB = true := memB_iff.2 (hm.2 hwm)
    simp [hwh, hgb, hex, words_ok, hc, hmb, hwm, gFill, setPart, tokG]
  · have hmb : memB (⟨w.toArray⟩ : ByteArray) wordsB = false := by
      rw [Bool.eq_false_iff]; exact fun h => hwm (hm.1 (memB_iff.1 h))
    simp [hwh, hgb, hex, words_ok, hc, hmb, hwm, hn, gFill, setPart, tokG]

theorem dec_head : ∀ (u : Nat) (c : UInt8) (r : List UInt8), Lib.decDigits u = c :: r → r ≠ [] → c ≠ 48 := by
  intro u
  induction u using Nat.strongRecOn with
  | _ u ih =>
    intro c r h hr
    by_cases hu : u < 10
    · rw [Lib.decDigits, dif_pos hu] at h
      injection h with h1 h2
      exact absurd h2.symm hr
    · rw [Lib.decDigits, dif_neg hu] at h
      cases hd : Lib.decDigits (u / 10) with
      | nil => exact absurd hd (dec_ne _)
      | cons c' r' =>
        rw [hd] at h
        simp only [List.cons_append, List.cons.injEq] at h
        obtain ⟨rfl, h2⟩ := h
        by_cases hr' : r' = []
        · have hu2 : u / 10 < 10 := by
            rcases Nat.lt_or_ge (u / 10) 10 with h3 | h3
            · exact h3
            · exfalso
              have hl := Lib.decDigits_length (u / 10)
              rw [hd, hr'] at hl
              have := Lib.nDigits_pos (u / 10 / 10)
              rw [Lib.nDigits_big (by omega)] at hl
              simp at hl; omega
          rw [Lib.decDigits, dif_pos hu2] at hd
          injection hd with hd _
          intro e
          rw [e] at hd
          have := congrArg UInt8.toNat hd
          rw [dig_val hu2] at this
          have e48 : (48 : UInt8).toNat = 48 := rfl
          omega
        · exact ih (u / 10) (by omega) c' r' hd hr'

theorem atoi_num (n : Int) (h1 : -1099511627776 ≤ n) (h2 : n ≤ 1099511627776) (H : GH) : ecall T f_strconv_Atoi [.str ⟨(Lib.itoa n).toArray⟩] H = some (.tup [.int .i64 n, .niliface], H) := by
  rw [ecall_lib T_strconv_Atoi (by decide) (by simp [F_strconv_Atoi])]
  have hz : (⟨(Lib.itoa n).toArray⟩ : ByteArray).size ≤ 281474976710656 := by rw [ba_size]; have := itoa_len n h1 h2; omega
  have hd : (⟨(Lib.itoa n).toArray⟩ : ByteArray).data.toList = Lib.itoa n := by simp
  simp only [libH, libP, lAtoi, F_strconv_Atoi, if_pos hz, hd, atoi_itoa n h1 h2]
  rfl

theorem number_ok (s : ByteArray) (n : Int) (r : List UInt8) (h0 : 0 ≤ n) (h1 : n ≤ 1099511627776) (h : s.data.toList = Lib.itoa n ++ 32 :: r) (hs : s.size ≤ 100000) (H : GH) :
    ecall T f_lex_number [.str s] H = some (.tup [tokG 3 n [], .int .i64 (Lib.itoa n).length, .bool true], H) := by
  have hit : Lib.itoa n = Lib.decDigits n.toNat := by unfold Lib.itoa; rw [if_neg (by omega)]
  have hall : (Lib.itoa n).all isDig = true := by rw [hit]; exact dec_dig _
  have hwh := while_ok s hs 27 isDig lex_digit H
  rw [h, take_app hall dig32] at hwh
  obtain ⟨hgb, hex⟩ := pre_slice h
  have hat := atoi_num n (by omega) h1 H
  obtain ⟨c, q, hcq⟩ : ∃ c q, Lib.itoa n = c :: q := by
    cases hh : Lib.itoa n with
    | nil => rw [hit] at hh; exact absurd hh (dec_ne _)
    | cons c q => exact ⟨c, q, rfl⟩
  have hsz := bs_size s
  have hix : gIx s.size (.int .i64 0) = some 0 := ix_ok (i := 0) (by rw [h, List.length_append] at hsz; simp at hsz; omega)
  have hg0 : s.data[0]? = some c := by
    have : s.data.toList[0]? = some c := by rw [h, hcq]; rfl
    simpa using this
  apply optW.eq
  rw [ecall_0 T_lex_number rfl (by simp [F_lex_number]), wp_fin1]
  simp only [F_lex_number, b_lex_number]
  by_cases hl1 : ((Lib.itoa n).length : Int) = 1
  · have hl1' : (Lib.itoa n).length = 1 := by omega
    rw [hl1, hl1'] at hgb
    rw [hl1'] at hex
    rw [hl1] at hwh
    simp [hwh, hgb, hex, hat, h1, hl1, hl1', gFill, setPart, tokG]
  · have hl1' : ¬ (Lib.itoa n).length = 1 := by omega
    have hq : q ≠ [] := by intro hq; rw [hcq, hq] at hl1'; simp at hl1'
    have hc48 := dec_head n.toNat c q (by rw [← hit]; exact hcq) hq
    have n48 : ¬ c.toNat = 48 := fun h => hc48 (UInt8.toNat_inj.1 h)
    have m48 : ¬ (c.toNat : Int) = 48 := by omega
    simp [hwh, hgb, hex, hat, h1, hl1, hl1', hix, str_get, hg0, n48, m48, gFill, setPart, tokG]
end Go.Proofs.YtlmiihdkgaljoaaGreatDoor
