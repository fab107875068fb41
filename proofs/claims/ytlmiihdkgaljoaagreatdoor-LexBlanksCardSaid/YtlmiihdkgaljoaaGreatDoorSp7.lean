/- Own work, over the shadow machine: LSpec7. -/
import Derived.Test.YtlmiihdkgaljoaaGreatDoorSp6
set_option linter.all false
namespace Go.Proofs.YtlmiihdkgaljoaaGreatDoor
open Go.Sh
set_option maxRecDepth 100000

/-! ## A text between quotes -/

theorem text_loop (s : ByteArray) (hs : s.size ≤ 100000) (t r : List UInt8) (hr : rightV 3 0 t = true) (ht : t.length ≤ 200) (h : s.data.toList = (39 :: (quoL t ++ [39])) ++ r) (t' : List UInt8) : ∀ (i : Nat) (_ : s.data.toList.drop i = quoL t' ++ 39 :: r) (_ : i + (quoL t').length = (quoL t).length + 1) (l : List GV) (g : Nat) (H : GH) (K : GExit × St → Prop)
    (_ : lget l 0 = .str s) (_ : lget l 5 = .int .i64 i) (_ : lget l 2 = .lbox 0 [.int .i64 0, .int .i64 0, .str ⟨#[]⟩])
    (_ : ∀ (l' : List GV) (g' : Nat), lget l' 2 = .lbox 0 [.int .i64 4, .int .i64 0, .str ⟨t.toArray⟩] → lget l' 3 = .int .i64 (((quoL t).length + 2 : Nat) : Int) → lget l' 4 = .bool true → K (.ret, ⟨⟨l', g'⟩, H⟩)),
    optW (erun T (.loop L0_lex_text) ⟨⟨l, g⟩, H⟩) K := by
  have hsz := bs_size s
  have hql := quo_len t
  induction t' with
  | nil =>
    intro i hd hi l g H K h0 h5 h2 he
    simp only [quoL, List.nil_append, List.length_nil, Nat.add_zero] at hd hi
    obtain ⟨hg, hi2, hd'⟩ := drop_some hd
    have hlt : (i : Int) < s.size := by omega
    have hlt' : i < s.size := by omega
    have hix := ix_ok hlt
    have hg' : s.data[i]? = some 39 := by simpa using hg
    have hgd : ∀ h : i < s.data.size, s.data[i]'h = 39 := fun h => by rw [Array.getElem?_eq_getElem h] at hg'; exact Option.some.inj hg'
    have hw : IntKind.i64.wrap ((i : Int) + 1) = (i : Int) + 1 := wrap_i64' (by omega) (by omega)
    obtain ⟨hgb, hex⟩ := pre_slice h
    have hwl : (39 :: (quoL t ++ [39])).length = i + 1 := by simp; omega
    rw [hwl] at hgb hex
    have hc1 : ((i + 1 : Nat) : Int) = (i : Int) + 1 := by omega
    rw [hc1] at hgb
    have htx : txtV 3 0 t = 39 :: (quoL t ++ [39]) := by simp [txtV, hr, txtR]
    have hpt := parse_txt 3 0 t
    rw [htx, hr, if_pos rfl] at hpt
    have hp := value_Parse ⟨(39 :: (quoL t ++ [39])).toArray⟩ (by rw [ba_size, hwl]; omega) H
    have hdt : (⟨(39 :: (quoL t ++ [39])).toArray⟩ : ByteArray).data.toList = 39 :: (quoL t ++ [39]) := by simp
    rw [hdt, hpt] at hp
    simp only [opt3, val3] at hp
    obtain ⟨wB, hwB⟩ : ∃ wB : ByteArray, (⟨(39 :: (quoL t ++ [39])).toArray⟩ : ByteArray) = wB := ⟨_, rfl⟩
    rw [hwB] at hp hex
    rw [run_loop, wp_seqK]
    simp [L0_lex_text, h0, h2, h5, hlt, hlt', hix, str_get, hg', hgd, hw, hgb, hex, hp, setPart, gFill]
    refine he _ _ ?_ ?_ ?_
    · simp
    · simp; omega
    · simp
  | cons c t' ih =>
    intro i hd hi l g H K h0 h5 h2 he
    by_cases hc : c = 39 ∨ c = 92
    · have hq : quoL (c :: t') = 92 :: c :: quoL t' := by simp [quoL, hc]
      rw [hq] at hd hi
      simp only [List.cons_append, List.length_cons] at hd hi
      obtain ⟨hg, hi2, hd'⟩ := drop_some hd
      obtain ⟨hg2, hi3, hd2⟩ := drop_some hd'
      have hlt : (i : Int) < s.size := by omega
      have hlt' : i < s.size := by omega
      have hix := ix_ok hlt
      have hg' : s.data[i]? = some 92 := by simpa using hg
      have hgd : ∀ h : i < s.data.size, s.data[i]'h = 92 := fun h => by rw [Array.getElem?_eq_getElem h] at hg'; exact Option.some.inj hg'
      have hw : IntKind.i64.wrap ((i : Int) + 1) = (i : Int) + 1 := wrap_i64' (by omega) (by omega)
      have hw2 : IntKind.i64.wrap ((i : Int) + 1 + 1) = (i : Int) + 1 + 1 := wrap_i64' (by omega) (by omega)
      rw [run_loop, wp_seqK]
      simp [L0_lex_text, h0, h5, hlt, hlt', hix, str_get, hg', hgd, hw, hw2]
      refine ih (i + 2) hd2 (by omega) _ g H K ?_ ?_ ?_ ?_
      · simp [h0]
      · simp; omega
      · simp [h2]
      · exact he
    · have hn1 : ¬ c = 39 := fun h => hc (.inl h)
      have hn2 : ¬ c = 92 := fun h => hc (.inr h)
      have n1 : ¬ c.toNat = 39 := fun h => hn1 (UInt8.toNat_inj.1 h)
      have n2 : ¬ c.toNat = 92 := fun h => hn2 (UInt8.toNat_inj.1 h)
      have b1 : ¬ (c.toNat : Int) = 39 := by omega
      have b2 : ¬ (c.toNat : Int) = 92 := by omega
      have hq : quoL (c :: t') = c :: quoL t' := by simp [quoL, hn1, hn2]
      rw [hq] at hd hi
      simp only [List.cons_append, List.length_cons] at hd hi
      obtain ⟨hg, hi2, hd'⟩ := drop_some hd
      have hlt : (i : Int) < s.size := by omega
      have hlt' : i < s.size := by omega
      have hix := ix_ok hlt
      have hg' : s.data[i]? = some c := by simpa using hg
      have hgd : ∀ h : i < s.data.size, s.data[i]'h = c := fun h => by rw [Array.getElem?_eq_getElem h] at hg'; exact Option.some.inj hg'
      have hw : IntKind.i64.wrap ((i : Int) + 1) = (i : Int) + 1 := wrap_i64' (by omega) (by omega)
      rw [run_loop, wp_seqK]
      simp [L0_lex_text, h0, h5, hlt, hlt', hix, str_get, hg', hgd, hw, n1, n2, b1, b2]
      refine ih (i + 1) hd' (by omega) _ g H K ?_ ?_ ?_ ?_
      · simp [h0]
      · simp
      · simp [h2]
      · exact he

theorem text_ok (s : ByteArray) (hs : s.size ≤ 100000) (t r : List UInt8) (hr : rightV 3 0 t = true) (ht : t.length ≤ 200) (h : s.data.toList = (39 :: (quoL t ++ [39])) ++ r) (H : GH) :
    ecall T f_lex_text [.str s] H = some (.tup [tokG 4 0 t, .int .i64 (((quoL t).length + 2 : Nat) : Int), .bool true], H) := by
  apply optW.eq
  rw [ecall_0 T_lex_text rfl (by simp [F_lex_text]), wp_fin1]
  simp only [F_lex_text, b_lex_text]
  simp
  rw [wp_seqK, wp_blockK]
  refine text_loop s hs t r hr ht h t 1 (by rw [h]; simp) (by omega) _ _ _ _ ?_ ?_ ?_ ?_
  · simp
  · simp
  · simp
  · intro l' g' e2 e3 e4
    simp [e2, e3, e4, tokG]

/-! ## Signs ahead of a blank -/

theorem fold_sign (s : ByteArray) (x r : List UInt8) (hx : x ∈ signsL) (h : s.data.toList = x ++ 32 :: r) : signsB.foldl (bst s) ⟨#[]⟩ = ⟨x.toArray⟩ := by
  have z0 : (⟨#[]⟩ : ByteArray).size = 0 := rfl
  have z1 : ∀ a, (⟨#[a]⟩ : ByteArray).size = 1 := fun _ => rfl
  have z2 : ∀ a b, (⟨#[a, b]⟩ : ByteArray).size = 2 := fun _ _ => rfl
  simp only [signsL, List.mem_cons, List.not_mem_nil, or_false] at hx
  rcases hx with rfl | rfl | rfl | rfl | rfl | rfl | rfl | rfl | rfl | rfl | rfl | rfl | rfl | rfl | rfl | rfl | rfl | rfl | rfl | rfl
  all_goals
    simp only [List.cons_append, List.nil_append] at h
    simp [signsB, bst, pre, h, List.isPrefixOf, z0, z1, z2]

/-! ## The next token -/

theorem words_all : wordsL.all (fun w => w.all inner && (match w with | c :: _ => letter c | [] => false)) = true := by decide
theorem signs_all : signsL.all (fun w => match w with | c :: _ => !letter c && !isDig c && !decide (c = 39) && !decide (c = 32) | [] => false) = true := by decide

theorem dig_notletter {c : UInt8} (h : isDig c = true) : letter c = false := by
  unfold isDig at h
  unfold letter
  simp at h ⊢
  omega

theorem next_ok (s : ByteArray) (hs : s.size ≤ 100000) (k n : Int) (t r : List UInt8) (hok : tokOk k n t = true) (ht : t.length ≤ 200) (h : s.data.toList = tokText k n t ++ 32 :: r) (H : GH) :
    (∃ c q, tokText k n t = c :: q ∧ c ≠ 32) ∧ ecall T f_lex_next [.str s] H = some (.tup [tokG k n t, .int .i64 (tokText k n t).length, .bool true], H) := by
  have hsz := bs_size s
  have first : ∀ c q, tokText k n t = c :: q → gIx s.size (.int .i64 0) = some 0 ∧ s.data[0]? = some c := by
    intro c q hcq
    rw [h, hcq, List.length_append] at hsz
    refine ⟨ix_ok (i := 0) (by simp at hsz; omega), ?_⟩
    have : s.data.toList[0]? = some c := by rw [h, hcq]; rfl
    simpa using this
  unfold tokOk at hok
  split at hok
  · rename_i hk
    subst hk
    have htt : tokText 1 n t = t := by simp [tokText]
    rw [htt] at h first ⊢
    simp only [Bool.and_eq_true, decide_eq_true_eq, Bool.not_eq_true', decide_eq_false_iff_not] at hok
    obtain ⟨⟨hn, hnm⟩, hnw⟩ := hok
    subst hn
    have hnm2 := hnm
    unfold nameL at hnm2
    simp only [Bool.and_eq_true, decide_eq_true_eq] at hnm2
    obtain ⟨⟨hl, hhd⟩, hall⟩ := hnm2
    cases t with
    | nil => simp at hl
    | cons c q =>
      have hlet : letter c = true := hhd
      obtain ⟨hix, hg0⟩ := first c q rfl
      have hno := name_ok s (c :: q) r h hall hs H
      rw [if_neg hnw, if_neg hnw, hnm] at hno
      have hll := lex_letter c H
      rw [hlet] at hll
      refine ⟨⟨c, q, rfl, by rintro rfl; revert hlet; decide⟩, ?_⟩
      apply optW.eq
      rw [ecall_0 T_lex_next rfl (by simp [F_lex_next]), wp_fin1]
      simp only [tokG] at hno ⊢
      simp [F_lex_next, b_lex_next, hix, str_get, hg0, hll, hno, setPart]
  · split at hok
    · rename_i hk
      subst hk
      have htt : tokText 2 n t = t := by simp [tokText]
      rw [htt] at h first ⊢
      simp only [Bool.and_eq_true, decide_eq_true_eq] at hok
      obtain ⟨hn, hw⟩ := hok
      subst hn
      have hwa := List.all_eq_true.1 words_all t hw
      simp only [Bool.and_eq_true] at hwa
      obtain ⟨hall, hhd⟩ := hwa
      cases t with
      | nil => cases hhd
      | cons c q =>
        have hlet : letter c = true := hhd
        obtain ⟨hix, hg0⟩ := first c q rfl
        have hno := name_ok s (c :: q) r h hall hs H
        rw [if_pos hw, if_pos hw] at hno
        have hll := lex_letter c H
        rw [hlet] at hll
        refine ⟨⟨c, q, rfl, by rintro rfl; revert hlet; decide⟩, ?_⟩
        apply optW.eq
        rw [ecall_0 T_lex_next rfl (by simp [F_lex_next]), wp_fin1]
        simp only [tokG] at hno ⊢
        simp [F_lex_next, b_lex_next, hix, str_get, hg0, hll, hno, setPart]
    · split at hok
      · rename_i hk
        subst hk
        simp only [Bool.and_eq_true, decide_eq_true_eq] at hok
        obtain ⟨⟨hte, h0⟩, h1⟩ := hok
        subst hte
        have htt : tokText 3 n [] = Lib.itoa n := by simp [tokText]
        rw [htt] at h first ⊢
        have hit : Lib.itoa n = Lib.decDigits n.toNat := by unfold Lib.itoa; rw [if_neg (by omega)]
        obtain ⟨c, q, hcq⟩ : ∃ c q, Lib.itoa n = c :: q := by
          cases hh : Lib.itoa n with
          | nil => rw [hit] at hh; exact absurd hh (dec_ne _)
          | cons c q => exact ⟨c, q, rfl⟩
        have hdig : isDig c = true := by
          have := dec_dig n.toNat
          rw [← hit, hcq] at this
          simp only [List.all_cons, Bool.and_eq_true] at this
          exact this.1
        obtain ⟨hix, hg0⟩ := first c q hcq
        have hno := number_ok s n r h0 h1 h hs H
        have hll := lex_letter c H
        rw [dig_notletter hdig] at hll
        have hdd := lex_digit c H
        rw [hdig] at hdd
        refine ⟨⟨c, q, hcq, by rintro rfl; revert hdig; decide⟩, ?_⟩
        apply optW.eq
        rw [ecall_0 T_lex_next rfl (by simp [F_lex_next]), wp_fin1]
        simp only [tokG] at hno ⊢
        simp [F_lex_next, b_lex_next, hix, str_get, hg0, hll, hdd, hno, setPart]
      · split at hok
        · rename_i hk
          subst hk
          simp only [Bool.and_eq_true, decide_eq_true_eq] at hok
          obtain ⟨hn, hr⟩ := hok
          subst hn
          have htt : tokText 4 0 t = 39 :: (quoL t ++ [39]) := by simp [tokText, txtV, hr, txtR]
          rw [htt] at h first ⊢
          obtain ⟨hix, hg0⟩ := first 39 _ rfl
          have hno := text_ok s hs t (32 :: r) hr ht h H
          have hll := lex_letter 39 H
          have hdd := lex_digit 39 H
          have e1 : letter 39 = false := by decide
          have e2 : isDig 39 = false := by decide
          have e3 : ((39 : UInt8).toNat : Int) = 39 := rfl
          rw [e1, e3] at hll
          rw [e2, e3] at hdd
          have hlen : (39 :: (quoL t ++ [39])).length = (quoL t).length + 2 := by simp
          refine ⟨⟨39, _, rfl, by decide⟩, ?_⟩
          rw [hlen]
          apply optW.eq
          rw [ecall_0 T_lex_next rfl (by simp [F_lex_next]), wp_fin1]
          simp only [tokG] at hno ⊢
          simp [F_lex_next, b_lex_next, hix, str_get, hg0, hll, hdd, hno, setPart]
        · split at hok
          · rename_i h1 h2 h3 h4 hk
            subst hk
            have htt : tokText 5 n t = t := by simp [tokText]
            rw [htt] at h first ⊢
            simp only [Bool.and_eq_true, decide_eq_true_eq] at hok
            obtain ⟨hn, hsg⟩ := hok
            subst hn
            have hsa := List.all_eq_true.1 signs_all t hsg
            cases t with
            | nil => cases hsa
            | cons c q =>
              simp only [Bool.and_eq_true, Bool.not_eq_true', decide_eq_false_iff_not] at hsa
              obtain ⟨⟨⟨hl, hd⟩, h39⟩, h32⟩ := hsa
              obtain ⟨hix, hg0⟩ := first c q rfl
              have hso := sign_ok s H
              rw [fold_sign s (c :: q) r hsg h] at hso
              have hne : ¬ (⟨(c :: q).toArray⟩ : ByteArray) = ⟨#[]⟩ := by
                intro he
                have := congrArg (fun b : ByteArray => b.data.toList) he
                simp at this
              simp only [hne, not_false_eq_true, decide_true, ba_size] at hso
              have hll := lex_letter c H
              rw [hl] at hll
              have hdd := lex_digit c H
              rw [hd] at hdd
              have n39 : ¬ c.toNat = 39 := fun h => h39 (UInt8.toNat_inj.1 h)
              have m39 : ¬ (c.toNat : Int) = 39 := by omega
              obtain ⟨xB, hxB⟩ : ∃ xB : ByteArray, (⟨(c :: q).toArray⟩ : ByteArray) = xB := ⟨_, rfl⟩
              refine ⟨⟨c, q, rfl, h32⟩, ?_⟩
              apply optW.eq
              rw [ecall_0 T_lex_next rfl (by simp [F_lex_next]), wp_fin1]
              simp only [tokG] at ⊢
              rw [hxB] at hso ⊢
              simp [F_lex_next, b_lex_next, hix, str_get, hg0, hll, hdd, n39, m39, hso, setPart]
          · cases hok
end Go.Proofs.YtlmiihdkgaljoaaGreatDoor
