/- Own work: the shadow machine and what it shows, part To4. -/
import Derived.Test.YtlmiihdkgaljoaaGreatDoorTo3
set_option linter.all false

namespace Go.Proofs.YtlmiihdkgaljoaaGreatDoor
open Go.Sh
set_option maxRecDepth 100000

theorem guess_loop (s : ByteArray) (hs : s.size ≤ 100000) (cs : List UInt8) : ∀ (i : Nat) (_ : (s.data.toList.take 15).drop i = cs) (acc : Int) (_ : -(((10 ^ (i + 2) : Nat) : Int) - 30) ≤ acc) (_ : acc ≤ ((10 ^ (i + 2) : Nat) : Int) - 30) (l : List GV) (g : Nat) (H : GH) (K : GExit × St → Prop) (bx : GV) (g2 : Nat) (cb : List GV) (_ : bx = .lbox g2 cb)
    (_ : lget l 0 = .str s) (_ : lget l 4 = .int .i64 acc) (_ : lget l 5 = .int .i64 i) (_ : lget l 2 = bx)
    (_ : ∀ l', lget l' 4 = .int .i64 (numI acc cs) → lget l' 2 = bx → K (.exit 1, ⟨⟨l', g⟩, H⟩)),
    optW (erun T (.loop L0_hedgerowref18_guess) ⟨⟨l, g⟩, H⟩) K := by
  have hsz := bs_size s
  induction cs with
  | nil =>
    intro i hd acc b1 b2 l g H K bx g2 cb hbx h0 h4 h5 h2 he
    subst hbx
    have hge := drop_none hd
    rw [List.length_take] at hge
    by_cases hi : (i : Int) < s.size
    · have hi' : i < s.size := by omega
      have h15 : ¬ (i : Int) < 15 := by omega
      have h15' : ¬ i < 15 := by omega
      rw [run_loop]
      simp [L0_hedgerowref18_guess, h0, h5, hi, hi', h15, h15']
      exact he _ (by simp [h4, numI]) (by simp [h2])
    · have hi' : ¬ i < s.size := by omega
      rw [run_loop]
      simp [L0_hedgerowref18_guess, h0, h5, hi, hi']
      exact he _ (by simp [h4, numI]) (by simp [h2])
  | cons c cs ih =>
    intro i hd acc b1 b2 l g H K bx g2 cb hbx h0 h4 h5 h2 he
    subst hbx
    obtain ⟨hg, hi2, hd'⟩ := drop_some hd
    rw [List.length_take] at hi2
    have h15' : i < 15 := by omega
    have h15 : (i : Int) < 15 := by omega
    have hlt' : i < s.size := by omega
    have hlt : (i : Int) < s.size := by omega
    have hix := ix_ok hlt
    rw [List.getElem?_take, if_pos h15'] at hg
    have hg' : s.data[i]? = some c := by simpa using hg
    have hgd : ∀ h : i < s.data.size, s.data[i]'h = c := fun h => by rw [Array.getElem?_eq_getElem h] at hg'; exact Option.some.inj hg'
    have hw : IntKind.i64.wrap ((i : Int) + 1) = (i : Int) + 1 := wrap_i64' (by omega) (by omega)
    have hP : 10 ^ (i + 2) ≤ 10 ^ 17 := Nat.pow_le_pow_right (by omega) (by omega)
    have hP2 : 10 ^ (i + 1 + 2) = 10 * 10 ^ (i + 2) := by rw [show i + 1 + 2 = (i + 2) + 1 by omega, Nat.pow_succ, Nat.mul_comm]
    have hcn := c.toNat_lt
    generalize hQ : 10 ^ (i + 2) = Q at *
    have e17 : (10 : Nat) ^ 17 = 100000000000000000 := by decide
    rw [e17] at hP
    have w0 : IntKind.i64.wrap (c.toNat : Int) = (c.toNat : Int) := wrap_i64' (by omega) (by omega)
    have w1 : IntKind.i64.wrap (acc * 10) = acc * 10 := wrap_i64' (by omega) (by omega)
    have w2 : IntKind.i64.wrap (acc * 10 + (c.toNat : Int)) = acc * 10 + (c.toNat : Int) := wrap_i64' (by omega) (by omega)
    have w3 : IntKind.i64.wrap (acc * 10 + (c.toNat : Int) - 48) = acc * 10 + (c.toNat : Int) - 48 := wrap_i64' (by omega) (by omega)
    rw [run_loop, wp_seqK]
    simp [L0_hedgerowref18_guess, h0, h4, h5, hlt, hlt', h15, h15', hix, str_get, hg', hgd, hw, w0, w1, w2, w3]
    refine ih (i + 1) hd' (acc * 10 + (c.toNat : Int) - 48) (by rw [hP2]; omega) (by rw [hP2]; omega) _ g H K _ g2 cb rfl ?_ ?_ ?_ ?_ ?_
    · simp [h0]
    · simp
    · simp
    · simp [h2]
    · intro l' e1 e2
      exact he l' e1 e2

theorem parse_none_long {w r : List UInt8} (hw : w = 39 :: r) (hl : 200 < w.length) : parseV w = none := by
  cases hp : parseV w with
  | none => rfl
  | some v =>
    obtain ⟨_, _, h3, h4⟩ := parseV_quote hw hp
    have h64 : v.2.2.length ≤ 64 := by
      simp only [rightV, plainL] at h3
      simp at h3
      omega
    have hq := quo_len v.2.2
    have : (txtV 3 0 v.2.2).length ≤ 130 := by simp [txtV, h3, txtR]; omega
    rw [h4] at this
    omega

theorem rparse_any (s : ByteArray) (hs : s.size ≤ 1000) (r : List UInt8) (h : s.data.toList = 39 :: r) (H : GH) : ∃ k n : Int, ∃ b : Bool, ecall T f_hedgerowref01_Parse [.str s] H = some (.tup [.agg [.int .i64 k, .int .i64 n, .str ⟨(partT s.data.toList).toArray⟩], .bool b], H) := by
  by_cases h2 : s.size ≤ 200
  · have hp := ref_Parse s h2 H
    unfold partT
    cases hv : parseV s.data.toList with
    | some v => rw [hv] at hp; exact ⟨v.1, v.2.1, true, hp⟩
    | none => rw [hv] at hp; exact ⟨0, 0, false, hp⟩
  · have h200 : (200 : Int) < s.size := by omega
    have h200' : 200 < s.size := by omega
    have hne : ¬ s = ⟨#[]⟩ := by
      intro e; rw [e] at h; cases h
    have hpn := parse_none_long h (by rw [← bs_size]; omega)
    refine ⟨0, 0, false, ?_⟩
    unfold partT
    rw [hpn]
    apply optW.eq
    rw [ecall_0 T_hedgerowref01_Parse rfl (by simp [F_hedgerowref01_Parse]), wp_fin1]
    simp only [F_hedgerowref01_Parse, b_hedgerowref01_Parse]
    simp [hne, h200, h200', gFill, setPart]

theorem guess_ok (s : ByteArray) (hs : s.size ≤ 1000) (c : UInt8) (r : List UInt8) (h : s.data.toList = c :: r) (H : GH) : ecall T f_hedgerowref18_guess [.str s] H = some (tkG (guessC c r), H) := by
  have hsz := bs_size s
  have hpos : 1 ≤ s.size := by rw [hsz, h]; simp
  have hix : gIx s.size (.int .i64 0) = some 0 := ix_ok (i := 0) (by omega)
  have hg0 : s.data[0]? = some c := by
    have : s.data.toList[0]? = some c := by rw [h]; rfl
    simpa using this
  have hgd : ∀ h : 0 < s.data.size, s.data[0]'h = c := fun h => by rw [Array.getElem?_eq_getElem h] at hg0; exact Option.some.inj hg0
  have hdig : isDig c = (decide ((48 : Int) ≤ c.toNat) && decide ((c.toNat : Int) ≤ 57)) := dig_cls
  have hse : s = ⟨(c :: r).toArray⟩ := ba_ext (by rw [h])
  have hwo := rwords_ok H
  have hso := rsigns_ok H
  have hiw := in_ok wordsB .exact s (by decide) H
  have his := in_ok signsB .exact s (by decide) H
  have hmw : memB s wordsB = decide (c :: r ∈ wordsL) := by rw [hse]; exact mem_wordsB _
  have hms : memB s signsB = decide (c :: r ∈ signsL) := by rw [hse]; exact mem_signsB _
  rw [hmw] at hiw
  rw [hms] at his
  apply optW.eq
  rw [ecall_0 T_hedgerowref18_guess rfl (by simp [F_hedgerowref18_guess]), wp_fin1]
  simp only [F_hedgerowref18_guess, b_hedgerowref18_guess]
  unfold guessC
  by_cases hd : isDig c = true
  · rw [if_pos hd]
    rw [hd] at hdig
    have hdd := hdig.symm
    simp only [Bool.and_eq_true, decide_eq_true_eq] at hdd
    have d1' : 48 ≤ c.toNat := by omega
    have d2' : c.toNat ≤ 57 := by omega
    simp [hix, str_get, hg0, hgd, hdd.1, hdd.2, d1', d2']
    rw [wp_seqK, wp_blockK, wp_seqK, wp_blockK]
    refine guess_loop s (by omega) (s.data.toList.take 15) 0 rfl 0 (by decide) (by decide) _ _ _ _ (.lbox 0 tk0) 0 tk0 rfl (by simp) (by simp) (by simp) (by simp) ?_
    intro l' e4 e2
    rw [h] at e4
    simp [e4, e2, gFill, setPart, tkG, tokG]
  · rw [if_neg hd]
    have hd' : isDig c = false := by simpa using hd
    rw [hd'] at hdig
    by_cases h39 : c = 39
    · subst h39
      obtain ⟨k, n, b, hp⟩ := rparse_any s hs r h H
      rw [h] at hp
      simp only [if_true]
      generalize hP : (⟨(partT (39 :: r)).toArray⟩ : ByteArray) = P at *
      simp [hix, str_get, hg0, hgd, hp, gFill, setPart, tkG, tokG, hP]
    · have n39 : ¬ c.toNat = 39 := fun h => h39 (UInt8.toNat_inj.1 h)
      have m39 : ¬ (c.toNat : Int) = 39 := by omega
      rw [if_neg h39]
      have hcase : (decide ((48 : Int) ≤ c.toNat) = false ∧ decide (48 ≤ c.toNat) = false) ∨ ((decide ((48 : Int) ≤ c.toNat) = true ∧ decide (48 ≤ c.toNat) = true) ∧ decide ((c.toNat : Int) ≤ 57) = false ∧ decide (c.toNat ≤ 57) = false) := by
        simp only [decide_eq_true_eq, decide_eq_false_iff_not]
        have : ¬ ((48 : Int) ≤ c.toNat ∧ (c.toNat : Int) ≤ 57) := fun hh => by
          simp [hh.1, hh.2] at hdig
        omega
      have hG : ∀ k : Int, tkG (k, 0, c :: r) = .agg [.int .i64 k, .int .i64 0, .str s] := fun k => by
        show tokG k 0 (c :: r) = _
        unfold tokG
        rw [← hse]
      by_cases hmw : c :: r ∈ wordsL
      · rw [decide_eq_true hmw] at hiw
        rw [if_pos hmw, hG]
        rcases hcase with ⟨c1, c2⟩ | ⟨⟨c1, c2⟩, c3, c4⟩
        · simp only [decide_eq_false_iff_not] at c1 c2
          simp [hix, str_get, hg0, hgd, c1, c2, n39, m39, hwo, hiw, gFill, setPart]
        · simp only [decide_eq_true_eq, decide_eq_false_iff_not] at c1 c2 c3 c4
          simp [hix, str_get, hg0, hgd, c1, c2, c3, c4, n39, m39, hwo, hiw, gFill, setPart]
      · rw [decide_eq_false hmw] at hiw
        rw [if_neg hmw]
        by_cases hms : c :: r ∈ signsL
        · rw [decide_eq_true hms] at his
          rw [if_pos hms, hG]
          rcases hcase with ⟨c1, c2⟩ | ⟨⟨c1, c2⟩, c3, c4⟩
          · simp only [decide_eq_false_iff_not] at c1 c2
            simp [hix, str_get, hg0, hgd, c1, c2, n39, m39, hwo, hiw, hso, his, gFill, setPart]
          · simp only [decide_eq_true_eq, decide_eq_false_iff_not] at c1 c2 c3 c4
            simp [hix, str_get, hg0, hgd, c1, c2, c3, c4, n39, m39, hwo, hiw, hso, his, gFill, setPart]
        · rw [decide_eq_false hms] at his
          rw [if_neg hms, hG]
          rcases hcase with ⟨c1, c2⟩ | ⟨⟨c1, c2⟩, c3, c4⟩
          · simp only [decide_eq_false_iff_not] at c1 c2
            simp [hix, str_get, hg0, hgd, c1, c2, n39, m39, hwo, hiw, hso, his, gFill, setPart]
          · simp only [decide_eq_true_eq, decide_eq_false_iff_not] at c1 c2 c3 c4
            simp [hix, str_get, hg0, hgd, c1, c2, c3, c4, n39, m39, hwo, hiw, hso, his, gFill, setPart]

/-! The loop. -/

theorem next_same' (c : UInt8) (r : List UInt8) : nextR (c :: r) = nextC c r := next_same c r

theorem size_le (c : UInt8) (r : List UInt8) : sizeC c r ≤ (c :: r).length := by
  unfold sizeC
  split
  · exact (List.takeWhile_prefix _).length_le
  · split
    · exact (List.takeWhile_prefix _).length_le
    · split
      · cases hs : scanQ r with
        | none => simp
        | some n => have := scan_le _ _ hs; simp; omega
      · split
        · rename_i h; omega
        · split <;> simp


theorem toksA_blank (r : List UInt8) : toksA (32 :: r) = toksA r := by
  unfold toksA
  have e : toksP ((32 :: r).length + 1) (32 :: r) = toksP ((32 :: r).length + 1) r := by
    rw [toksP, toksP, List.dropWhile_cons, if_pos (by decide)]
  rw [e]
  exact toks_fuel _ _ _ (by simp; omega) (by omega)

theorem toksA_cons {c : UInt8} (hc : c ≠ 32) (r : List UInt8) : toksA (c :: r) = match nextC c r with | none => none | some (t, k) => (toksA ((c :: r).drop k)).map (t :: ·) := by
  unfold toksA
  rw [toksP, List.dropWhile_cons, if_neg (by simpa using hc)]
  have e : nextP (c :: r) = nextC c r := rfl
  simp only [e]
  cases hn : nextC c r with
  | none => rfl
  | some v =>
    obtain ⟨t, k⟩ := v
    obtain ⟨k1, k2, _, _⟩ := next_facts (e.trans hn)
    simp only
    rw [toks_fuel _ (((c :: r).drop k).length + 1) _ (by rw [List.length_drop]; omega) (by omega)]

theorem guess_small2 (c : UInt8) (r w : List UInt8) (hw : w = (c :: r).take (sizeC c r)) (hn : sizeC c r ≠ 0) (hl : (c :: r).length ≤ 400) : ∃ q, w = c :: q ∧ (guessC c q).2.2.length ≤ 1000 ∧ -9999999999999999 ≤ (guessC c q).2.1 ∧ (guessC c q).2.1 ≤ 9999999999999999 := by
  obtain ⟨n, hn⟩ : ∃ n, sizeC c r = n + 1 := ⟨sizeC c r - 1, by omega⟩
  have hq : w = c :: r.take n := by rw [hw, hn]; rfl
  refine ⟨r.take n, hq, ?_⟩
  have hl2 : (c :: r.take n).length ≤ 400 := by
    simp only [List.length_cons, List.length_take] at hl ⊢
    omega
  unfold guessC
  by_cases hd : isDig c = true
  · rw [if_pos hd]
    have ha : (c :: r.take n).all isDig = true := by
      rw [← hq, hw]
      unfold sizeC
      rw [if_pos hd, take_while]
      exact while_all _ _
    have hat : ((c :: r.take n).take 15).all isDig = true := by
      rw [List.all_eq_true] at ha ⊢
      exact fun x hx => ha x (List.mem_of_mem_take hx)
    have hI : numI 0 ((c :: r.take n).take 15) = (numL 0 ((c :: r.take n).take 15) : Int) := numI_dig _ 0 hat
    have hlt := numL_lt _ 0 hat
    have hp : 10 ^ ((c :: r.take n).take 15).length ≤ 10 ^ 15 := Nat.pow_le_pow_right (by omega) (by rw [List.length_take]; omega)
    have e15 : (10 : Nat) ^ 15 = 1000000000000000 := by decide
    rw [e15] at hp
    simp only [List.length_nil]
    rw [hI]
    omega
  · rw [if_neg hd]
    by_cases h39 : c = 39
    · rw [if_pos h39]
      subst h39
      refine ⟨?_, by simp, by simp⟩
      unfold partT
      cases hp : parseV (39 :: r.take n) with
      | none => simp
      | some v =>
        obtain ⟨_, _, h3, _⟩ := parseV_quote rfl hp
        simp only [rightV, plainL] at h3
        simp at h3
        simp only
        omega
    · rw [if_neg h39]
      split
      · exact ⟨by show (c :: r.take n).length ≤ 1000; omega, by simp, by simp⟩
      · split
        · exact ⟨by show (c :: r.take n).length ≤ 1000; omega, by simp, by simp⟩
        · exact ⟨by show (c :: r.take n).length ≤ 1000; omega, by simp, by simp⟩

theorem rtokens_loop (m : Nat) : ∀ (s : ByteArray) (_ : s.size ≤ m) (_ : s.size ≤ 400) (l : List GV) (g : Nat) (H : GH) (K : GExit × St → Prop) (done : List Tk) (o : GV)
    (_ : lget l 0 = .str s) (_ : lget l 4 = o) (_ : App H 3 o (done.map tkG)) (_ : H.bt ≤ H.toks.length) (_ : done.length + s.size ≤ 5000)
    (_ : ∀ ts, toksA s.data.toList = some ts → ∀ (l' : List GV) (g' : Nat) (H' : GH) (o' : GV), lget l' 4 = o' → App H' 3 o' ((done ++ ts).map tkG) → K (.exit 0, ⟨⟨l', g'⟩, H'⟩))
    (_ : toksA s.data.toList = none → ∀ (l' : List GV) (g' : Nat) (H' : GH), lget l' 2 = .nilsl → lget l' 3 = .int .i64 10 → K (.ret, ⟨⟨l', g'⟩, H'⟩)),
    optW (erun T (.loop L0_hedgerowref18_Tokens) ⟨⟨l, g⟩, H⟩) K := by
  have nil_case : ∀ (s : ByteArray) (_ : s.data.toList = []) (l : List GV) (g : Nat) (H : GH) (K : GExit × St → Prop) (done : List Tk) (o : GV)
      (_ : lget l 0 = .str s) (_ : lget l 4 = o) (_ : App H 3 o (done.map tkG))
      (_ : ∀ ts, toksA s.data.toList = some ts → ∀ (l' : List GV) (g' : Nat) (H' : GH) (o' : GV), lget l' 4 = o' → App H' 3 o' ((done ++ ts).map tkG) → K (.exit 0, ⟨⟨l', g'⟩, H'⟩)),
      optW (erun T (.loop L0_hedgerowref18_Tokens) ⟨⟨l, g⟩, H⟩) K := by
    intro s hs l g H K done o h0 h4 hA he
    have hsz := bs_size s
    rw [hs] at hsz
    simp only [List.length_nil] at hsz
    have h1 : ¬ (0 : Int) < s.size := by omega
    have h1' : ¬ 0 < s.size := by omega
    rw [run_loop]
    simp [L0_hedgerowref18_Tokens, h0, h1, h1']
    rw [hs] at he
    exact he [] rfl _ _ H o (by simp [h4]) (by simpa using hA)
  induction m with
  | zero =>
    intro s hm _ l g H K done o h0 h4 hA _ _ he _
    have : s.data.toList = [] := List.eq_nil_of_length_eq_zero (by rw [← bs_size]; omega)
    exact nil_case s this l g H K done o h0 h4 hA he
  | succ m ih =>
    intro s hm hs l g H K done o h0 h4 hA hbt hk he hb
    cases hL : s.data.toList with
    | nil => exact nil_case s hL l g H K done o h0 h4 hA he
    | cons c r =>
      have hsz := bs_size s
      rw [hL] at hsz he hb
      have hp : (0 : Int) < s.size := by simp at hsz; omega
      have hp' : 0 < s.size := by omega
      have hix : gIx s.size (.int .i64 0) = some 0 := ix_ok (i := 0) (by omega)
      have hg0 : s.data[0]? = some c := by
        have : s.data.toList[0]? = some c := by rw [hL]; rfl
        simpa using this
      have hgd : ∀ h : 0 < s.data.size, s.data[0]'h = c := fun h => by rw [Array.getElem?_eq_getElem h] at hg0; exact Option.some.inj hg0
      by_cases hc : c = 32
      · subst hc
        have e1 : gBound s.size (.int .i64 1) = some 1 := by simp only [gBound]; rw [if_pos (by omega)]; rfl
        have hgb : gBounds s.size true false false [.int .i64 1] = some (1, s.size, none) := by simp [gBounds, e1]
        have hx : (s.extract 1 s.size).data.toList = r := by
          rw [Lib.extract_data, hL, List.drop_one, List.tail_cons, List.take_of_length_le (by simp at hsz; omega)]
        have hxz : (s.extract 1 s.size).size = s.size - 1 := by rw [bs_size, hx]; simp at hsz; omega
        rw [run_loop, wp_seqK]
        simp [L0_hedgerowref18_Tokens, h0, hp, hp', hix, str_get, hg0, hgd, hgb]
        refine ih (s.extract 1 s.size) (by omega) (by omega) _ g H K done o ?_ ?_ hA hbt (by omega) ?_ ?_
        · simp
        · simp [h4]
        · rw [hx]; intro ts hts; exact he ts (by rw [toksA_blank]; exact hts)
        · rw [hx]; intro hts; exact hb (by rw [toksA_blank]; exact hts)
      · have n32 : ¬ c.toNat = 32 := fun h => hc (UInt8.toNat_inj.1 h)
        have m32 : ¬ (c.toNat : Int) = 32 := by omega
        have hsize := size_ok s (by omega) c r hL H
        rw [toksA_cons hc] at he hb
        rw [← next_same' c r] at he hb
        by_cases hz : sizeC c r = 0
        · rw [hz] at hsize
          have hz' : ((0 : Nat) : Int) = 0 := rfl
          rw [hz'] at hsize
          have hz2 : sizeR (c :: r) = sizeC c r := rfl
          have hnr : nextR (c :: r) = none := by unfold nextR; rw [hz2, if_pos hz]
          rw [hnr] at hb
          rw [run_loop, wp_seqK]
          simp [L0_hedgerowref18_Tokens, h0, hp, hp', hix, str_get, hg0, hgd, n32, m32, hsize]
          exact hb rfl _ _ _ (by simp) (by simp)
        · have hz' : ¬ ((sizeC c r : Nat) : Int) = 0 := by omega
          have hkz : sizeC c r ≤ s.size := by rw [hsz]; exact size_le c r
          obtain ⟨hgb, hex⟩ := pre_cut (s := s) (n := sizeC c r) hkz
          rw [hL] at hex
          obtain ⟨q, hq, q1, q2, q3⟩ := guess_small2 c r _ rfl hz (by rw [← hsz]; omega)
          have hgu := guess_ok ⟨((c :: r).take (sizeC c r)).toArray⟩ (by rw [ba_size, List.length_take]; omega) c q (by simpa using hq) H
          have hnr : nextR (c :: r) = if tkOk (guessC c q) = true ∧ tkText (guessC c q) = c :: q then some (guessC c q, sizeC c r) else none := by
            unfold nextR
            have hz2 : sizeR (c :: r) = sizeC c r := rfl
            rw [hz2, if_neg hz, hq]
            rfl
          rw [hnr] at he hb
          generalize hv : guessC c q = v at *
          obtain ⟨k, n, t⟩ := v
          simp only at q1 q2 q3
          obtain ⟨x, hx, hxt⟩ := rone_ok k n t q1 q2 q3 H
          have hgb1 : gBound s.size (.int .i64 ((sizeC c r : Nat) : Int)) = some (sizeC c r) := by simp only [gBound]; rw [if_pos (by omega)]; simp
          have hgb2 : gBounds s.size true false false [.int .i64 ((sizeC c r : Nat) : Int)] = some (sizeC c r, s.size, none) := by simp [gBounds, hgb1]
          rw [hq] at hgu hex
          simp only [tkG, tokG] at hgu
          cases hok : tokOk k n t with
          | false =>
            rw [hok] at hx
            have hno : ¬ (tkOk (k, n, t) = true ∧ tkText (k, n, t) = c :: q) := fun hh => by
              have : tkOk (k, n, t) = tokOk k n t := rfl
              rw [this, hok] at hh; exact absurd hh.1 (by simp)
            rw [if_neg hno] at hb
            rw [run_loop, wp_seqK]
            simp [L0_hedgerowref18_Tokens, h0, hp, hp', hix, str_get, hg0, hgd, n32, m32, hsize, hz, hz', hgb, hex, hgu, setPart, hx]
            exact hb rfl _ _ _ (by simp) (by simp)
          | true =>
            rw [hok] at hx
            have hxt := hxt hok
            by_cases hte : tokText k n t = c :: q
            · have hxe : x = ⟨(c :: q).toArray⟩ := ba_ext (by rw [hxt, hte])
              have hyes : tkOk (k, n, t) = true ∧ tkText (k, n, t) = c :: q := ⟨hok, hte⟩
              rw [if_pos hyes] at he hb
              simp only at he hb
              subst hxe
              have hxx : (s.extract (sizeC c r) s.size).data.toList = (c :: r).drop (sizeC c r) := by
                rw [Lib.extract_data, hL, List.take_of_length_le (by rw [List.length_drop, hsz]; omega)]
              have hxz : (s.extract (sizeC c r) s.size).size = s.size - sizeC c r := by rw [bs_size, hxx, List.length_drop, hsz]
              obtain ⟨o', H', hap, hA', hstep, _⟩ := append_ok (ty := 30) (bytes := 32) (x := .sl 3 [tokG k n t] .exact) (ys := [tokG k n t]) hA (by simp [gNews]) hbt (by simp [room]; omega) (by simp [maxLen]; omega)
              have hbt' : H'.bt ≤ H'.toks.length := hstep.btle hbt
              have hmm : done.map tkG ++ [tokG k n t] = (done ++ [(k, n, t)]).map tkG := by simp [tkG]
              rw [hmm] at hA'
              simp only [tokG] at hap
              generalize hBq : (⟨(c :: q).toArray⟩ : ByteArray) = Bq at *
              rw [run_loop, wp_seqK]
              simp [L0_hedgerowref18_Tokens, h0, h4, hp, hp', hix, str_get, hg0, hgd, n32, m32, hsize, hz, hz', hgb, hgb2, hex, hgu, setPart, hx, gSetAll, hA.elems.unb, hA'.elems.unb, hap]
              refine ih (s.extract (sizeC c r) s.size) (by rw [hxz]; omega) (by rw [hxz]; omega) _ _ H' K (done ++ [(k, n, t)]) o' ?_ ?_ hA' hbt' (by rw [hxz]; simp; omega) ?_ ?_
              · simp
              · simp
              · rw [hxx]
                intro ts hts l' g' H2 o2 f4 f5
                exact he ((k, n, t) :: ts) (by rw [hts]; rfl) l' g' H2 o2 f4 (by simpa using f5)
              · rw [hxx]
                intro hts
                exact hb (by rw [hts]; rfl)
            · have hxe : ¬ x = ⟨(c :: q).toArray⟩ := fun e => hte (by rw [← hxt, e])
              have hno : ¬ (tkOk (k, n, t) = true ∧ tkText (k, n, t) = c :: q) := fun hh => hte hh.2
              rw [if_neg hno] at hb
              generalize hBq : (⟨(c :: q).toArray⟩ : ByteArray) = Bq at *
              rw [run_loop, wp_seqK]
              simp [L0_hedgerowref18_Tokens, h0, hp, hp', hix, str_get, hg0, hgd, n32, m32, hsize, hz, hz', hgb, hex, hgu, setPart, hx, hxe]
              exact hb rfl _ _ _ (by simp) (by simp)

theorem rtokens_any (s : ByteArray) (hs : s.size ≤ 400) (H : GH) :
    ∃ v, ecall T f_hedgerowref18_Tokens [.str s] H = some (.tup [v, .int .i64 (if (toksA s.data.toList).isSome = true then 0 else 10)], H) ∧ Elems 3 v (((toksA s.data.toList).getD []).map tkG) := by
  have h20 : ¬ ((2000 : Int) < s.size) := by omega
  have h20' : ¬ (2000 < s.size) := by omega
  have key : optW (ecall T f_hedgerowref18_Tokens [.str s] H) fun x => ∃ v, x = (.tup [v, .int .i64 (if (toksA s.data.toList).isSome = true then 0 else 10)], H) ∧ Elems 3 v (((toksA s.data.toList).getD []).map tkG) := by
    rw [ecall_1 T_hedgerowref18_Tokens rfl (by simp [F_hedgerowref18_Tokens]), wp_fin1]
    simp only [F_hedgerowref18_Tokens, b_hedgerowref18_Tokens]
    simp [h20, h20']
    rw [wp_seqK, wp_blockK]
    refine rtokens_loop s.size s (Nat.le_refl _) hs _ _ _ _ [] .nilsl (by simp) (by simp) .nil (Nat.le_refl _) (by simp; omega) ?_ ?_
    · intro ts hts l' g' H' o' f4 f5
      rw [List.nil_append] at f5
      obtain ⟨v, hv, hc⟩ := clean_app f5 H.objs.length H.toks.length
      have hct := clean_tup2 (n := 99) hc (show clean H.objs.length H.toks.length 99 (.int .i64 0) = some (.int .i64 0) from rfl)
      have hok := f5.ok
      simp [f4, f5.elems.unb, hok, hct, hts]
      exact hv
    · intro hts l' g' H' f2 f3
      have hct : clean H.objs.length H.toks.length 100 (.tup [.nilsl, .int .i64 10]) = some (.tup [.nilsl, .int .i64 10]) := rfl
      simp [f2, f3, hct, hts]
      exact .nil
  obtain ⟨x, h1, v, rfl, h3⟩ := key
  exact ⟨v, h1, h3⟩

/-! ## The law -/

theorem lexTokens_ok (s : ByteArray) (H : GH) : ∃ H', ecall T f_hedgerowlaw18_LexTokens [.str s] H = some (.bool true, H') := by
  have hfx := fixed_ok
  have hsz := bs_size s
  have key : optW (ecall T f_hedgerowlaw18_LexTokens [.str s] H) fun r => ∃ H', r = (.bool true, H') := by
    rw [ecall_0 T_hedgerowlaw18_LexTokens rfl (by simp [F_hedgerowlaw18_LexTokens]), wp_fin1]
    simp only [F_hedgerowlaw18_LexTokens, b_hedgerowlaw18_LexTokens]
    by_cases h4 : (400 : Int) < s.size
    · have h4' : 400 < s.size := by omega
      simp [hfx, h4, h4']
    · have h4' : ¬ 400 < s.size := by omega
      obtain ⟨u, hlt, hu⟩ := tokens_any s (by omega) H
      obtain ⟨v, hrt, hv⟩ := rtokens_any s (by omega) H
      cases hT : toksA s.data.toList with
      | none =>
        rw [hT] at hlt hrt hu hv
        simp only [Option.isSome_none, Bool.false_eq_true, if_false, Option.getD_none] at hlt hrt hu hv
        have hsm := same_ok [] (by simp) u v hu hv H
        simp [hfx, h4, h4', hlt, hrt, hu.unb, hv.unb, hu.ok, hv.ok, hsm]
      | some ts =>
        rw [hT] at hlt hrt hu hv
        simp only [Option.isSome_some, if_true, Option.getD_some] at hlt hrt hu hv
        obtain ⟨f1, f2, f3⟩ := toks_facts _ _ _ hT
        have hjl := join_len ts
        have hsm := same_ok ts (by omega) u v hu hv H
        have htx := text_list ts (by omega) f1 (by omega) u hu H
        have hB : (⟨(joinT ts).toArray⟩ : ByteArray).data.toList = joinT ts := by simp
        have hBz : (⟨(joinT ts).toArray⟩ : ByteArray).size ≤ 1000 := by rw [ba_size]; omega
        obtain ⟨w, hlt2, hw⟩ := tokens_any ⟨(joinT ts).toArray⟩ hBz H
        have htj : toksA (joinT ts) = some ts := toks_join ts f1 _ (by omega)
        rw [hB, htj] at hlt2 hw
        simp only [Option.isSome_some, if_true, Option.getD_some] at hlt2 hw
        have hsm2 := same_ok ts (by omega) u w hu hw H
        generalize hBB : (⟨(joinT ts).toArray⟩ : ByteArray) = B at *
        simp [hfx, h4, h4', hlt, hrt, hu.unb, hv.unb, hu.ok, hv.ok, hsm, htx, hlt2, hw.unb, hw.ok, hsm2]
  obtain ⟨r, h1, H', rfl⟩ := key
  exact ⟨H', h1⟩
end Go.Proofs.YtlmiihdkgaljoaaGreatDoor
