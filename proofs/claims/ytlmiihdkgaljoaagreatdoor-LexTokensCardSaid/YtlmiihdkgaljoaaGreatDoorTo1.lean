/- Own work: the shadow machine and what it shows, part To1. -/
import Derived.Test.YtlmiihdkgaljoaaGreatDoorSp3
import Derived.Test.YtlmiihdkgaljoaaGreatDoorPu
set_option linter.all false

namespace Go.Proofs.YtlmiihdkgaljoaaGreatDoor
open Go.Sh
set_option maxRecDepth 100000

/-! ## Tokens of whatever text: the program's walk -/

theorem pre_mk (s : ByteArray) (x : List UInt8) : pre s ⟨x.toArray⟩ = x.isPrefixOf s.data.toList := by simp [pre]

theorem bst_mk (s : ByteArray) (b x : List UInt8) : bst s ⟨b.toArray⟩ ⟨x.toArray⟩ = ⟨(bstL s.data.toList b x).toArray⟩ := by
  unfold bst bstL
  rw [pre_mk, ba_size, ba_size]
  split <;> rfl

theorem fold_best (s : ByteArray) : signsB.foldl (bst s) ⟨#[]⟩ = ⟨(bestS s.data.toList).toArray⟩ := by
  have h : ∀ (S : List (List UInt8)) (b : List UInt8), (S.map fun l : List UInt8 => (⟨l.toArray⟩ : ByteArray)).foldl (bst s) ⟨b.toArray⟩ = ⟨(S.foldl (bstL s.data.toList) b).toArray⟩ := by
    intro S
    induction S with
    | nil => intro b; rfl
    | cons x S ih => intro b; rw [List.map_cons, List.foldl_cons, List.foldl_cons, bst_mk, ih]
  rw [signs_map]
  exact h signsL []

/-- A beginning, cut off. -/
theorem pre_cut {s : ByteArray} {n : Nat} (h : n ≤ s.size) : gBounds s.size false true false [.int .i64 (n : Int)] = some (0, n, none) ∧ s.extract 0 n = ⟨(s.data.toList.take n).toArray⟩ := by
  have e1 : gBound s.size (.int .i64 (n : Int)) = some n := by simp only [gBound]; rw [if_pos (by omega)]; simp
  refine ⟨by simp [gBounds, e1], ?_⟩
  apply ba_ext
  rw [Lib.extract_data]; simp

theorem name_any (s : ByteArray) (hs : s.size ≤ 100000) (H : GH) :
    ecall T f_lex_name [.str s] H = some (.tup [tokG (if s.data.toList.takeWhile inner ∈ wordsL then 2 else 1) 0 (s.data.toList.takeWhile inner), .int .i64 (s.data.toList.takeWhile inner).length, .bool (if s.data.toList.takeWhile inner ∈ wordsL then true else nameL (s.data.toList.takeWhile inner))], H) := by
  have hsz := bs_size s
  have hle : (s.data.toList.takeWhile inner).length ≤ s.size := by rw [hsz]; exact (List.takeWhile_prefix inner).length_le
  have hwh := while_ok s hs f_lex_inner inner lex_inner H
  obtain ⟨hgb, hex⟩ := pre_cut hle
  rw [take_while] at hex
  generalize hw : s.data.toList.takeWhile inner = w at *
  have hdt : (⟨w.toArray⟩ : ByteArray).data.toList = w := by simp
  have hc := contains_ok wordsB .exact ⟨w.toArray⟩ (by decide) H
  have hm := mem_words ⟨w.toArray⟩
  rw [hdt] at hm
  have hzw : (⟨w.toArray⟩ : ByteArray).size ≤ 9223372036854775807 := by
    rw [ba_size]; omega
  have hn := value_Name ⟨w.toArray⟩ hzw H
  rw [hdt] at hn
  apply optW.eq
  rw [ecall_0 T_lex_name rfl (by simp [F_lex_name]), wp_fin1]
  simp only [F_lex_name, b_lex_name]
  by_cases hwm : w ∈ wordsL
  · have hmb : memB (⟨w.toArray⟩ : ByteArray) wordsB = true := memB_iff.2 (hm.2 hwm)
    simp [hwh, hgb, hex, words_ok, hc, hmb, hwm, gFill, setPart, tokG]
  · have hmb : memB (⟨w.toArray⟩ : ByteArray) wordsB = false := by
      rw [Bool.eq_false_iff]; exact fun h => hwm (hm.1 (memB_iff.1 h))
    simp [hwh, hgb, hex, words_ok, hc, hmb, hwm, hn, gFill, setPart, tokG]

/-- A number that is read, or what lies there. -/
theorem number_any (s : ByteArray) (c : UInt8) (r : List UInt8) (h : s.data.toList = c :: r) (hs : s.size ≤ 1000) (H : GH) :
    ∃ v, ecall T f_lex_number [.str s] H = some (.tup [tokG 3 v [], .int .i64 (s.data.toList.takeWhile isDig).length, .bool (numOf (s.data.toList.takeWhile isDig) c).isSome], H) ∧ ∀ w, numOf (s.data.toList.takeWhile isDig) c = some w → v = w := by
  have hsz := bs_size s
  have hle : (s.data.toList.takeWhile isDig).length ≤ s.size := by rw [hsz]; exact (List.takeWhile_prefix isDig).length_le
  have hwh := while_ok s (by omega) f_lex_digit isDig lex_digit H
  obtain ⟨hgb, hex⟩ := pre_cut hle
  rw [take_while] at hex
  have hpos : 1 ≤ s.size := by rw [hsz, h]; simp
  have hix : gIx s.size (.int .i64 0) = some 0 := ix_ok (i := 0) (by omega)
  have hg0 : s.data[0]? = some c := by
    have : s.data.toList[0]? = some c := by rw [h]; rfl
    simpa using this
  generalize hw : s.data.toList.takeWhile isDig = w at *
  have hdt : (⟨w.toArray⟩ : ByteArray).data.toList = w := by simp
  have hz : (⟨w.toArray⟩ : ByteArray).size ≤ 281474976710656 := by rw [ba_size]; omega
  have hat : ecall T f_strconv_Atoi [.str ⟨w.toArray⟩] H = (numCase (Lib.atoiAll w) (fun v => some (.tup [.int .i64 v, .niliface]))
      (some (.tup [.int .i64 0, .iface 108 (.el [] 0)])) (some (.tup [.int .i64 (Lib.atoiSat w), .iface 108 (.el [] 0)]))).map fun v => (v, H) := by
    rw [ecall_lib T_strconv_Atoi (by decide) (by simp [F_strconv_Atoi])]
    simp only [libH, libP, lAtoi, F_strconv_Atoi, if_pos hz, hdt]
    rfl
  have key : ∃ v, optW (ecall T f_lex_number [.str s] H) (fun x => x = (.tup [tokG 3 v [], .int .i64 w.length, .bool (numOf w c).isSome], H)) ∧ ∀ u, numOf w c = some u → v = u := by
    rcases ha : Lib.atoiAll w with v | _ | _
    rotate_left
    · rw [ha] at hat
      have hat' : ecall T f_strconv_Atoi [.str ⟨w.toArray⟩] H = some (.tup [.int .i64 0, .iface 108 (.el [] 0)], H) := hat
      have hn : numOf w c = none := by unfold numOf; rw [ha]
      refine ⟨0, ?_, by rw [hn]; intro u hu; cases hu⟩
      rw [hn]
      rw [ecall_0 T_lex_number rfl (by simp [F_lex_number]), wp_fin1]
      simp only [F_lex_number, b_lex_number]
      simp [hwh, hgb, hex, hat', gFill, setPart, tokG]
    · rw [ha] at hat
      have hat' : ecall T f_strconv_Atoi [.str ⟨w.toArray⟩] H = some (.tup [.int .i64 (Lib.atoiSat w), .iface 108 (.el [] 0)], H) := hat
      have hn : numOf w c = none := by unfold numOf; rw [ha]
      refine ⟨Lib.atoiSat w, ?_, by rw [hn]; intro u hu; cases hu⟩
      rw [hn]
      rw [ecall_0 T_lex_number rfl (by simp [F_lex_number]), wp_fin1]
      simp only [F_lex_number, b_lex_number]
      simp [hwh, hgb, hex, hat', gFill, setPart, tokG]
    · rw [ha] at hat
      have hat' : ecall T f_strconv_Atoi [.str ⟨w.toArray⟩] H = some (.tup [.int .i64 v, .niliface], H) := hat
      have hn : numOf w c = if v ≤ 1099511627776 ∧ (w.length = 1 ∨ c ≠ 48) then some v else none := by unfold numOf; rw [ha]
      refine ⟨v, ?_, by rw [hn]; intro u hu; split at hu <;> first | exact Option.some.inj hu | cases hu⟩
      rw [hn]
      rw [ecall_0 T_lex_number rfl (by simp [F_lex_number]), wp_fin1]
      simp only [F_lex_number, b_lex_number]
      by_cases h1 : v ≤ 1099511627776
      · by_cases hl1 : (w.length : Int) = 1
        · have hl1' : w.length = 1 := by omega
          rw [hl1] at hwh
          rw [hl1, hl1'] at hgb
          rw [hl1'] at hex
          simp [hwh, hgb, hex, hat', h1, hl1, hl1', gFill, setPart, tokG]
        · have hl1' : ¬ w.length = 1 := by omega
          by_cases h48 : c = 48
          · have n48 : c.toNat = 48 := by rw [h48]; rfl
            have m48 : (c.toNat : Int) = 48 := by omega
            simp [hwh, hgb, hex, hat', h1, hl1, hl1', hix, str_get, hg0, n48, m48, h48, gFill, setPart, tokG]
          · have n48 : ¬ c.toNat = 48 := fun h => h48 (UInt8.toNat_inj.1 h)
            have m48 : ¬ (c.toNat : Int) = 48 := by omega
            simp [hwh, hgb, hex, hat', h1, hl1, hl1', hix, str_get, hg0, n48, m48, h48, gFill, setPart, tokG]
      · simp [hwh, hgb, hex, hat', h1, gFill, setPart, tokG]
  obtain ⟨v, h1, h2⟩ := key
  exact ⟨v, h1.eq, h2⟩

/-- What a text at the beginning comes to. -/
def textR (l : List UInt8) (k : Nat) : GV := .tup [tokG 4 0 (match parseV (l.take k) with | some v => v.2.2 | none => []), .int .i64 (k : Int), .bool (parseV (l.take k)).isSome]

theorem sign_any (s : ByteArray) (H : GH) : ecall T f_lex_sign [.str s] H = some (.tup [tokG 5 0 (bestS s.data.toList), .int .i64 (bestS s.data.toList).length, .bool (decide (¬ bestS s.data.toList = []))], H) := by
  rw [sign_ok, fold_best, ba_size]
  have : (¬ (⟨(bestS s.data.toList).toArray⟩ : ByteArray) = ⟨#[]⟩) ↔ ¬ bestS s.data.toList = [] := by
    constructor
    · intro h e; exact h (by rw [e])
    · intro h e
      exact h (by have := congrArg (fun b : ByteArray => b.data.toList) e; simpa using this)
  simp only [tokG, this]
end Go.Proofs.YtlmiihdkgaljoaaGreatDoor

namespace Go.Proofs.YtlmiihdkgaljoaaGreatDoor
open Go.Sh
set_option maxRecDepth 100000

/-! ## A text at the beginning -/

theorem scan_esc (r : List UInt8) : scanQ (92 :: r) = (scanQ (r.drop 1)).map (· + 2) := by
  cases r with
  | nil => rfl
  | cons d l => simp [scanQ]
theorem scan_quote (r : List UInt8) : scanQ (39 :: r) = some 1 := by
  cases r with
  | nil => rfl
  | cons d l => simp [scanQ]
theorem scan_other {c : UInt8} (h1 : c ≠ 92) (h2 : c ≠ 39) (r : List UInt8) : scanQ (c :: r) = (scanQ r).map (· + 1) := by
  cases r with
  | nil => simp [scanQ, h1, h2]
  | cons d l => simp [scanQ, h1, h2]

abbrev tk0 : List GV := [.int .i64 0, .int .i64 0, .str ⟨#[]⟩]

theorem parse_part (s : ByteArray) (hs : s.size ≤ 1000) (H : GH) : ∃ k n : Int, ecall T f_value_Parse [.str s] H = some (.tup [.agg [.int .i64 k, .int .i64 n, .str ⟨(partT s.data.toList).toArray⟩], .bool (parseV s.data.toList).isSome], H) := by
  have h := value_Parse s hs H
  unfold partT
  cases hp : parseV s.data.toList with
  | some v => rw [hp] at h; exact ⟨v.1, v.2.1, h⟩
  | none => rw [hp] at h; exact ⟨0, 0, h⟩

theorem text_loop_any (s : ByteArray) (hs : s.size ≤ 1000) (m : Nat) : ∀ (cs : List UInt8) (_ : cs.length ≤ m) (i : Nat) (_ : s.data.toList.drop i = cs) (_ : i ≤ s.size + 1) (l : List GV) (g : Nat) (H : GH) (K : GExit × St → Prop)
    (_ : lget l 0 = .str s) (_ : lget l 5 = .int .i64 i) (_ : lget l 2 = .lbox 0 tk0)
    (_ : scanQ cs = none → ∀ l', lget l' 2 = .lbox 0 tk0 → K (.exit 0, ⟨⟨l', g⟩, H⟩))
    (_ : ∀ n, scanQ cs = some n → ∀ (l' : List GV) (g' : Nat), lget l' 2 = .lbox 0 [.int .i64 4, .int .i64 0, .str ⟨(partT (s.data.toList.take (i + n))).toArray⟩] → lget l' 3 = .int .i64 ((i + n : Nat) : Int) → lget l' 4 = .bool (parseV (s.data.toList.take (i + n))).isSome → K (.ret, ⟨⟨l', g'⟩, H⟩)),
    optW (erun T (.loop L0_lex_text) ⟨⟨l, g⟩, H⟩) K := by
  have hsz := bs_size s
  induction m with
  | zero =>
    intro cs hcs i hd hi l g H K h0 h5 h2 hn he
    have : cs = [] := List.eq_nil_of_length_eq_zero (by omega)
    subst this
    have hge := drop_none hd
    have h1 : ¬ ((i : Int) < s.size) := by omega
    have h1' : ¬ (i < s.size) := by omega
    rw [run_loop]
    simp [L0_lex_text, h0, h5, h1, h1']
    exact hn rfl _ (by simp [h2])
  | succ m ih =>
    intro cs hcs i hd hi l g H K h0 h5 h2 hn he
    cases cs with
    | nil =>
      have hge := drop_none hd
      have h1 : ¬ ((i : Int) < s.size) := by omega
      have h1' : ¬ (i < s.size) := by omega
      rw [run_loop]
      simp [L0_lex_text, h0, h5, h1, h1']
      exact hn rfl _ (by simp [h2])
    | cons c r =>
      simp only [List.length_cons] at hcs
      obtain ⟨hg, hi2, hd'⟩ := drop_some hd
      have hlt : (i : Int) < s.size := by omega
      have hlt' : i < s.size := by omega
      have hix := ix_ok hlt
      have hg' : s.data[i]? = some c := by simpa using hg
      have hgd : ∀ h : i < s.data.size, s.data[i]'h = c := fun h => by rw [Array.getElem?_eq_getElem h] at hg'; exact Option.some.inj hg'
      have hw : IntKind.i64.wrap ((i : Int) + 1) = (i : Int) + 1 := wrap_i64' (by omega) (by omega)
      have hw2 : IntKind.i64.wrap ((i : Int) + 1 + 1) = (i : Int) + 1 + 1 := wrap_i64' (by omega) (by omega)
      by_cases h92 : c = 92
      · subst h92
        rw [run_loop, wp_seqK]
        simp [L0_lex_text, h0, h5, hlt, hlt', hix, str_get, hg', hgd, hw, hw2]
        have hd2 : s.data.toList.drop (i + 2) = r.drop 1 := by rw [← hd', List.drop_drop]
        refine ih (r.drop 1) (by rw [List.length_drop]; omega) (i + 2) hd2 (by omega) _ g H K ?_ ?_ ?_ ?_ ?_
        · simp [h0]
        · simp; omega
        · simp [h2]
        · intro hh; exact hn (by rw [scan_esc, hh]; rfl)
        · intro n hh l' g' e2 e3 e4
          have := he (n + 2) (by rw [scan_esc, hh]; rfl) l' g'
          rw [show i + (n + 2) = i + 2 + n by omega] at this
          exact this e2 e3 e4
      · have n2 : ¬ c.toNat = 92 := fun h => h92 (UInt8.toNat_inj.1 h)
        have b2 : ¬ (c.toNat : Int) = 92 := by omega
        by_cases h39 : c = 39
        · subst h39
          obtain ⟨hgb, hex⟩ := pre_cut (s := s) (n := i + 1) (by omega)
          have hc1 : ((i + 1 : Nat) : Int) = (i : Int) + 1 := by omega
          rw [hc1] at hgb
          obtain ⟨k, n, hp⟩ := parse_part ⟨(s.data.toList.take (i + 1)).toArray⟩ (by rw [ba_size, List.length_take]; omega) H
          have hdt : (⟨(s.data.toList.take (i + 1)).toArray⟩ : ByteArray).data.toList = s.data.toList.take (i + 1) := by simp
          rw [hdt] at hp
          have he1 := he 1 (scan_quote r)
          generalize hT : s.data.toList.take (i + 1) = Tt at *
          generalize hB : (⟨Tt.toArray⟩ : ByteArray) = B at *
          generalize hP : (⟨(partT Tt).toArray⟩ : ByteArray) = P at *
          rw [run_loop, wp_seqK]
          simp [L0_lex_text, h0, h2, h5, hlt, hlt', hix, str_get, hg', hgd, hw, hgb, hex, hp, setPart, gFill]
          refine he1 _ _ ?_ ?_ ?_
          · simp
          · simp
          · simp
        · have n1 : ¬ c.toNat = 39 := fun h => h39 (UInt8.toNat_inj.1 h)
          have b1 : ¬ (c.toNat : Int) = 39 := by omega
          rw [run_loop, wp_seqK]
          simp [L0_lex_text, h0, h5, hlt, hlt', hix, str_get, hg', hgd, hw, n1, n2, b1, b2]
          refine ih r (by omega) (i + 1) hd' (by omega) _ g H K ?_ ?_ ?_ ?_ ?_
          · simp [h0]
          · simp
          · simp [h2]
          · intro hh; exact hn (by rw [scan_other h92 h39, hh]; rfl)
          · intro n hh l' g' e2 e3 e4
            have := he (n + 1) (by rw [scan_other h92 h39, hh]; rfl) l' g'
            rw [show i + (n + 1) = i + 1 + n by omega] at this
            exact this e2 e3 e4

theorem text_any (s : ByteArray) (hs : s.size ≤ 1000) (c : UInt8) (r : List UInt8) (h : s.data.toList = c :: r) (H : GH) :
    ∃ (t : List UInt8) (k : Nat) (b : Bool), ecall T f_lex_text [.str s] H = some (.tup [tokG (if scanQ r = none then 0 else 4) 0 t, .int .i64 k, .bool b], H) ∧ (match scanQ r with | none => b = false | some n => k = n + 1 ∧ t = partT ((c :: r).take (n + 1)) ∧ b = (parseV ((c :: r).take (n + 1))).isSome) := by
  cases hs0 : scanQ r with
  | none =>
    refine ⟨[], 0, false, ?_, rfl⟩
    apply optW.eq
    rw [ecall_0 T_lex_text rfl (by simp [F_lex_text]), wp_fin1]
    simp only [F_lex_text, b_lex_text]
    simp
    rw [wp_seqK, wp_blockK]
    refine text_loop_any s hs s.size r (by rw [bs_size, h]; simp) 1 (by rw [h]; rfl) (by omega) _ _ _ _ (by simp) (by simp) (by simp) ?_ ?_
    · intro hn l' e2
      simp [e2, gFill, setPart, tokG]
    · intro n hn
      rw [hs0] at hn; cases hn
  | some n =>
    refine ⟨partT ((c :: r).take (n + 1)), n + 1, (parseV ((c :: r).take (n + 1))).isSome, ?_, rfl, rfl, rfl⟩
    apply optW.eq
    rw [ecall_0 T_lex_text rfl (by simp [F_lex_text]), wp_fin1]
    simp only [F_lex_text, b_lex_text]
    simp
    rw [wp_seqK, wp_blockK]
    refine text_loop_any s hs s.size r (by rw [bs_size, h]; simp) 1 (by rw [h]; rfl) (by omega) _ _ _ _ (by simp) (by simp) (by simp) ?_ ?_
    · intro hn
      rw [hs0] at hn; cases hn
    · intro m hm l' g' e2 e3 e4
      rw [hs0] at hm
      injection hm with hm
      subst hm
      rw [h, Nat.add_comm 1 n] at e2 e4
      rw [Nat.add_comm 1 n] at e3
      have e5 : (c :: r).take (n + 1) = c :: r.take n := rfl
      rw [e5] at e2 e4
      simp [e2, e3, e4, tokG]

/-! ## The token at the beginning -/

theorem next_any (s : ByteArray) (hs : s.size ≤ 1000) (c : UInt8) (r : List UInt8) (h : s.data.toList = c :: r) (H : GH) :
    ∃ (v : Tk) (k : Nat) (b : Bool), ecall T f_lex_next [.str s] H = some (.tup [tkG v, .int .i64 k, .bool b], H) ∧ nextC c r = if b = true then some (v, k) else none := by
  have hsz := bs_size s
  have hpos : 1 ≤ s.size := by rw [hsz, h]; simp
  have hix : gIx s.size (.int .i64 0) = some 0 := ix_ok (i := 0) (by omega)
  have hg0 : s.data[0]? = some c := by
    have : s.data.toList[0]? = some c := by rw [h]; rfl
    simpa using this
  have hll := lex_letter c H
  have hdd := lex_digit c H
  cases hl : letter c with
  | true =>
    rw [hl] at hll
    have hno := name_any s (by omega) H
    rw [h] at hno
    unfold nextC
    rw [if_pos hl]
    generalize hw : (c :: r).takeWhile inner = w at *
    refine ⟨(if w ∈ wordsL then 2 else 1, 0, w), w.length, if w ∈ wordsL then true else nameL w, ?_, ?_⟩
    · apply optW.eq
      rw [ecall_0 T_lex_next rfl (by simp [F_lex_next]), wp_fin1]
      simp only [tkG, tokG] at hno ⊢
      simp [F_lex_next, b_lex_next, hix, str_get, hg0, hll, hno, setPart]
    · by_cases hm : w ∈ wordsL
      · simp only [if_pos hm, if_true]
      · simp only [if_neg hm]
  | false =>
    rw [hl] at hll
    cases hd : isDig c with
    | true =>
      rw [hd] at hdd
      obtain ⟨v, hno, hv⟩ := number_any s c r h hs H
      rw [h] at hno hv
      unfold nextC
      rw [if_neg (by rw [hl]; simp), if_pos hd]
      generalize hw : (c :: r).takeWhile isDig = w at *
      refine ⟨(3, v, []), w.length, (numOf w c).isSome, ?_, ?_⟩
      · apply optW.eq
        rw [ecall_0 T_lex_next rfl (by simp [F_lex_next]), wp_fin1]
        simp only [tkG, tokG] at hno ⊢
        simp [F_lex_next, b_lex_next, hix, str_get, hg0, hll, hdd, hno, setPart]
      · cases hn : numOf w c with
        | none => rfl
        | some u => rw [hv u hn]; rfl
    | false =>
      rw [hd] at hdd
      by_cases h39 : c = 39
      · obtain ⟨t, k, b, hno, hb⟩ := text_any s hs c r h H
        have n39 : c.toNat = 39 := by rw [h39]; rfl
        have m39 : (c.toNat : Int) = 39 := by omega
        rw [m39] at hll hdd
        unfold nextC
        rw [if_neg (by rw [hl]; simp), if_neg (by rw [hd]; simp), if_pos h39]
        refine ⟨(if scanQ r = none then 0 else 4, 0, t), k, b, ?_, ?_⟩
        · apply optW.eq
          rw [ecall_0 T_lex_next rfl (by simp [F_lex_next]), wp_fin1]
          simp only [tkG, tokG] at hno ⊢
          simp [F_lex_next, b_lex_next, hix, str_get, hg0, hll, hdd, n39, m39, hno, setPart]
        · cases hs : scanQ r with
          | none => rw [hs] at hb; simp only at hb; rw [hb]; rfl
          | some n =>
            rw [hs] at hb
            obtain ⟨rfl, rfl, rfl⟩ := hb
            simp only [partT]
            cases hp : parseV ((c :: r).take (n + 1)) with
            | none => rfl
            | some v => simp
      · have hso := sign_any s H
        rw [h] at hso
        have n39 : ¬ c.toNat = 39 := fun h => h39 (UInt8.toNat_inj.1 h)
        have m39 : ¬ (c.toNat : Int) = 39 := by omega
        unfold nextC
        rw [if_neg (by rw [hl]; simp), if_neg (by rw [hd]; simp), if_neg h39]
        generalize hw : bestS (c :: r) = w at *
        refine ⟨(5, 0, w), w.length, decide (¬ w = []), ?_, ?_⟩
        · apply optW.eq
          rw [ecall_0 T_lex_next rfl (by simp [F_lex_next]), wp_fin1]
          simp only [tkG, tokG] at hso ⊢
          simp [F_lex_next, b_lex_next, hix, str_get, hg0, hll, hdd, n39, m39, hso, setPart]
        · by_cases he : w = []
          · simp [he]
          · simp [he]
end Go.Proofs.YtlmiihdkgaljoaaGreatDoor
