/- Own work: the shadow machine and what it shows, part To2. -/
import Derived.Test.YtlmiihdkgaljoaaGreatDoorTo1
import Derived.Test.YtlmiihdkgaljoaaGreatDoorShF
set_option linter.all false

namespace Go.Proofs.YtlmiihdkgaljoaaGreatDoor
open Go.Sh
set_option maxRecDepth 100000

/-! ## All tokens of a text, and tokens' text: the program's -/

theorem blank_split (l : List UInt8) : ∃ n, l = List.replicate n 32 ++ l.dropWhile (· == 32) ∧ (l.dropWhile (· == 32)).head? ≠ some 32 := by
  induction l with
  | nil => exact ⟨0, rfl, by simp⟩
  | cons c l ih =>
    obtain ⟨n, h1, h2⟩ := ih
    by_cases hc : c = 32
    · subst hc
      refine ⟨n + 1, ?_, ?_⟩
      · rw [List.dropWhile_cons, if_pos (by decide), List.replicate_succ, List.cons_append, ← h1]
      · rw [List.dropWhile_cons, if_pos (by decide)]; exact h2
    · refine ⟨0, ?_, ?_⟩
      · rw [List.dropWhile_cons, if_neg (by simpa using hc)]; rfl
      · rw [List.dropWhile_cons, if_neg (by simpa using hc)]; simpa using hc

theorem tokens_loop_any (n : Nat) : ∀ (s : ByteArray) (_ : s.size ≤ 1000) (_ : s.size < n) (l : List GV) (g : Nat) (H : GH) (K : GExit × St → Prop) (done : List Tk) (o : GV)
    (_ : lget l 0 = .str s) (_ : lget l 4 = o) (_ : App H 3 o (done.map tkG)) (_ : H.bt ≤ H.toks.length) (_ : done.length + s.size ≤ 5000)
    (_ : ∀ ts, toksP n s.data.toList = some ts → ∀ (l' : List GV) (g' : Nat) (H' : GH) (o' : GV), lget l' 2 = o' → lget l' 3 = .int .i64 0 → App H' 3 o' ((done ++ ts).map tkG) → K (.ret, ⟨⟨l', g'⟩, H'⟩))
    (_ : toksP n s.data.toList = none → ∀ (l' : List GV) (g' : Nat) (H' : GH), lget l' 2 = .nilsl → lget l' 3 = .int .i64 10 → K (.ret, ⟨⟨l', g'⟩, H'⟩)),
    optW (erun T (.loop L0_lex_Tokens) ⟨⟨l, g⟩, H⟩) K := by
  induction n with
  | zero => intro s _ h; omega
  | succ n ih =>
    intro s hss hn l g H K done o h0 h4 hA hbt hk he hb
    obtain ⟨m, hm, hh⟩ := blank_split s.data.toList
    obtain ⟨s', e1, ht⟩ := trim_ok m _ hh s hm H
    have hsz := bs_size s
    have hsz' := bs_size s'
    rw [e1] at hsz'
    have hdl := drop_len (· == 32) s.data.toList
    rw [toksP] at he hb
    cases hd : s.data.toList.dropWhile (· == 32) with
    | nil =>
      rw [hd] at he hb e1
      have hse : s' = ⟨#[]⟩ := ba_ext (by rw [e1])
      subst hse
      rw [run_loop]
      simp [L0_lex_Tokens, h0, ht, h4, hA.elems.unb]
      exact he [] rfl _ _ H o (by simp) (by simp) (by simpa using hA)
    | cons c r =>
      rw [hd] at he hb e1 hsz' hdl
      simp only at he hb
      obtain ⟨v, k, b, hnx, hnc⟩ := next_any s' (by omega) c r e1 H
      have hne : ¬ s' = ⟨#[]⟩ := by
        intro h
        rw [h] at e1
        cases e1
      have hnp : nextP (c :: r) = nextC c r := rfl
      rw [hnp, hnc] at he hb
      obtain ⟨k1, n1, t1⟩ := v
      cases b with
      | false =>
        simp only [tkG, tokG] at hnx
        rw [run_loop, wp_seqK]
        simp [L0_lex_Tokens, h0, ht, hne, hnx, setPart, h4, hA.elems.unb]
        exact hb (by simp) _ _ _ (by simp) (by simp)
      | true =>
        have hf := next_facts (show nextP (c :: r) = some ((k1, n1, t1), k) by rw [hnp, hnc]; rfl)
        obtain ⟨q1, q2, q3, q4⟩ := hf
        have hkz : k ≤ s'.size := by omega
        have hgb1 : gBound s'.size (.int .i64 (k : Int)) = some k := by simp only [gBound]; rw [if_pos (by omega)]; simp
        have hgb : gBounds s'.size true false false [.int .i64 (k : Int)] = some (k, s'.size, none) := by simp [gBounds, hgb1]
        have hx : (s'.extract k s'.size).data.toList = (c :: r).drop k := by
          rw [Lib.extract_data, e1, List.take_of_length_le (by rw [List.length_drop]; omega)]
        have hxz : (s'.extract k s'.size).size = s'.size - k := by
          rw [bs_size, hx, List.length_drop, hsz']
        obtain ⟨o', H', hap, hA', hstep, _⟩ := append_ok (ty := 30) (bytes := 32) (x := .sl 3 [tokG k1 n1 t1] .exact) (ys := [tokG k1 n1 t1]) hA (by simp [gNews]) hbt (by simp [room]; omega) (by simp [maxLen]; omega)
        have hbt' : H'.bt ≤ H'.toks.length := hstep.btle hbt
        have hmm : done.map tkG ++ [tokG k1 n1 t1] = (done ++ [(k1, n1, t1)]).map tkG := by simp [tkG]
        rw [hmm] at hA'
        simp only [tkG, tokG] at hnx hap
        rw [run_loop, wp_seqK]
        simp [L0_lex_Tokens, h0, ht, hne, hnx, setPart, h4, hA.elems.unb, hA'.elems.unb, gSetAll, hap, hgb]
        refine ih _ (by rw [hxz]; omega) (by rw [hxz]; omega) _ _ H' K (done ++ [(k1, n1, t1)]) o' ?_ ?_ hA' hbt' (by rw [hxz]; simp; omega) ?_ ?_
        · simp
        · simp
        · intro ts hts l' g' H2 o2 f2 f3 f4
          rw [hx] at hts
          have := he ((k1, n1, t1) :: ts) (by simp only [if_true]; rw [hts]; rfl) l' g' H2 o2 f2 f3
          exact this (by simpa using f4)
        · intro hts
          rw [hx] at hts
          exact hb (by simp only [if_true]; rw [hts]; rfl)

/-- What a text has: tokens, or none. -/
def toksA (l : List UInt8) : Option (List Tk) := toksP (l.length + 1) l

theorem clean_app {H : GH} {o : GV} {xs : List Tk} (h : App H 3 o (xs.map tkG)) (a b : Nat) : ∃ v, Elems 3 v (xs.map tkG) ∧ clean a b 99 o = some v := by
  have hcr : ∀ n, (xs.map tkG).mapM (clean a b (n + 2)) = some (xs.map tkG) := fun n => clean_tks _ _ n _
  generalize xs.map tkG = ys at h hcr
  cases h with
  | nil => exact ⟨.nilsl, .nil, rfl⟩
  | exact =>
    obtain ⟨t, ht⟩ := clean_sl (sz := 3) (tag := .exact) (hcr 96)
    exact ⟨_, .sl _ t, ht⟩
  | tok _ _ _ =>
    obtain ⟨t, ht⟩ := clean_sl (sz := 3) (tag := .tok _ _ _) (hcr 96)
    exact ⟨_, .sl _ t, ht⟩

theorem tokens_any (s : ByteArray) (hs : s.size ≤ 1000) (H : GH) :
    ∃ v, ecall T f_lex_Tokens [.str s] H = some (.tup [v, .int .i64 (if (toksA s.data.toList).isSome = true then 0 else 10)], H) ∧ Elems 3 v (((toksA s.data.toList).getD []).map tkG) := by
  have h20 : ¬ ((2000 : Int) < s.size) := by omega
  have h20' : ¬ (2000 < s.size) := by omega
  have hsz := bs_size s
  have key : optW (ecall T f_lex_Tokens [.str s] H) fun x => ∃ v, x = (.tup [v, .int .i64 (if (toksA s.data.toList).isSome = true then 0 else 10)], H) ∧ Elems 3 v (((toksA s.data.toList).getD []).map tkG) := by
    rw [ecall_1 T_lex_Tokens rfl (by simp [F_lex_Tokens]), wp_fin1]
    simp only [F_lex_Tokens, b_lex_Tokens]
    simp [h20, h20']
    rw [wp_blockK]
    refine tokens_loop_any (s.data.toList.length + 1) s hs (by rw [hsz]; omega) _ _ _ _ [] .nilsl (by simp) (by simp) .nil (Nat.le_refl _) (by simp; omega) ?_ ?_
    · intro ts hts l' g' H' o' f2 f3 f4
      rw [List.nil_append] at f4
      have hta : toksA s.data.toList = some ts := hts
      obtain ⟨v, hv, hc⟩ := clean_app f4 H.objs.length H.toks.length
      have hct := clean_tup2 (n := 99) hc (show clean H.objs.length H.toks.length 99 (.int .i64 0) = some (.int .i64 0) from rfl)
      have hok := f4.ok
      simp [f2, f3, hok, hct, hta]
      exact hv
    · intro hts l' g' H' f2 f3
      have hta : toksA s.data.toList = none := hts
      have hct : clean H.objs.length H.toks.length 100 (.tup [.nilsl, .int .i64 10]) = some (.tup [.nilsl, .int .i64 10]) := rfl
      simp [f2, f3, hct, hta]
      exact .nil
  obtain ⟨x, h1, v, rfl, h3⟩ := key
  exact ⟨v, h1, h3⟩

theorem tk_short {v : Tk} (h : tkOk v = true) : v.2.2.length ≤ 64 ∧ 0 ≤ v.2.1 ∧ v.2.1 ≤ 1099511627776 := by
  obtain ⟨k, n, t⟩ := v
  unfold tkOk tokOk at h
  simp only at h ⊢
  split at h
  · simp only [Bool.and_eq_true, decide_eq_true_eq, nameL] at h
    omega
  · split at h
    · simp only [Bool.and_eq_true, decide_eq_true_eq] at h
      have hw : wordsL.all (fun w => decide (w.length ≤ 64)) = true := by decide
      have := List.all_eq_true.1 hw _ h.2
      simp only [decide_eq_true_eq] at this
      omega
    · split at h
      · simp only [Bool.and_eq_true, decide_eq_true_eq] at h
        rw [h.1.1]; simp; omega
      · split at h
        · simp only [Bool.and_eq_true, decide_eq_true_eq, rightV, plainL] at h
          simp at h
          omega
        · split at h
          · simp only [Bool.and_eq_true, decide_eq_true_eq] at h
            have := sign_len h.2
            omega
          · cases h

theorem join_joinT : ∀ ts : List Tk, Lib.join (ts.map tkText) [32] = joinT ts
  | [] => rfl
  | [v] => by simp [Lib.join, joinT]
  | v :: u :: l => by
    have ih := join_joinT (u :: l)
    simp only [Lib.join, List.map_cons] at ih ⊢
    rw [List.intercalate_cons_cons, ih]
    simp [joinT]

theorem text_listL (all : List Tk) (hall : all.length ≤ 1000) (hok : ∀ v ∈ all, tkOk v = true) (u : GV) (hu : Elems 3 u (all.map tkG)) (l0 : List GV) (g0 : Nat) (H0 : GH) (hbt : H0.bt ≤ H0.toks.length) (K : GExit × St → Prop)
    (h9 : lget l0 9 = u) (h10 : lget l0 10 = .int .i64 all.length) (h11 : lget l0 11 = .int .i64 0) (h4 : lget l0 4 = .nilsl)
    (he : ∀ l g H o, lget l 4 = o → Elems 1 o ((all.map fun v => (⟨(tkText v).toArray⟩ : ByteArray)).map GV.str) → K (.exit 0, ⟨⟨l, g⟩, H⟩)) :
    optW (erun T (.loop L0_lex_Text) ⟨⟨l0, g0⟩, H0⟩) K := by
  refine range_loop (T := T) (n := all.length) (A := GV) (fun _ o => [(4, o)]) (fun i o _ H' => App H' 1 o ((((all.take i).map fun v => (⟨(tkText v).toArray⟩ : ByteArray))).map GV.str) ∧ H'.bt ≤ H'.toks.length) (c := 12) (b := 0) (I := 11) (N := 10) (d := 26) rfl (by omega) (by decide) ⟨rfl, rfl⟩ (by simp) ?_ ?_ 0 .nilsl _ _ H0 (by omega) ⟨by simpa using App.nil, hbt⟩ (by simp [h4]) (.refl _ _ _) h11 h10
  · intro i o l g H' hi ⟨hA, hb⟩ hh hf hI
    have h9' := hf.get 9 rfl h9 (by simp [hu.boxy])
    obtain ⟨lt, ix, opt, get, ⟨t, sl⟩, wr_, mem⟩ := at_ok (e := tkG) hu hi (by omega)
    generalize all[i]'hi = v at opt get mem
    have hv := hok v mem
    obtain ⟨s1, s2, s3⟩ := tk_short hv
    obtain ⟨k, n, t1⟩ := v
    simp only at s1 s2 s3
    obtain ⟨x, hx, hxt, _⟩ := one_ok k n t1 (by omega) (by omega) (by omega) H'
    have hok1 : tokOk k n t1 = true := hv
    rw [hok1] at hx
    have hxe : x = ⟨(tkText (k, n, t1)).toArray⟩ := ba_ext (by rw [hxt hok1]; simp [tkText])
    subst hxe
    simp only [Holds_cons, Holds_nil, and_true] at hh
    rw [sl] at h9'
    obtain ⟨o', H2, hap, hA2, hstep, _⟩ := append_ok (ty := 9) (bytes := 16) (x := .sl 1 [.str ⟨(tkText (k, n, t1)).toArray⟩] .exact) (ys := [.str ⟨(tkText (k, n, t1)).toArray⟩]) hA (by simp [gNews]) hb (by simp [room]; omega) (by simp [maxLen]; omega)
    have htake : all.take (i + 1) = all.take i ++ [(k, n, t1)] := by rw [List.take_add_one, opt]; rfl
    have hmm : (((all.take i).map fun v => (⟨(tkText v).toArray⟩ : ByteArray)).map GV.str) ++ [GV.str ⟨(tkText (k, n, t1)).toArray⟩] = (((all.take (i + 1)).map fun v => (⟨(tkText v).toArray⟩ : ByteArray)).map GV.str) := by rw [htake]; simp
    rw [hmm] at hA2
    generalize hB : (⟨(tkText (k, n, t1)).toArray⟩ : ByteArray) = B at *
    simp [h9', hI, ix, opt, get, hh, tkG, tokG, setPart, hx, gSetAll, hA.elems.unb, hA2.elems.unb, hap]
    exact fun _ => ⟨by simpa using hA2, hstep.btle hb⟩
  · intro o l g H' ⟨hA, hb⟩ hh hf
    simp only [Holds_cons, Holds_nil, and_true] at hh
    rw [List.take_length] at hA
    exact he l g H' o hh hA.elems

theorem join_list (L : List ByteArray) (u : GV) (hu : Elems 1 u (L.map GV.str)) (hL : L.length ≤ 1000) (hl : (Lib.join (L.map (·.data.toList)) [32]).length ≤ 100000) (H : GH) : ecall T f_strings_Join [u, .str ⟨#[32]⟩] H = some (.str ⟨(Lib.join (L.map (·.data.toList)) [32]).toArray⟩, H) := by
  have hs : ∀ L : List ByteArray, strsOf (L.map GV.str) = some L := by
    intro L
    induction L with
    | nil => rfl
    | cons x L ih => simp [strsOf, ih]
  have h32 : (⟨#[32]⟩ : ByteArray).data.toList = [32] := rfl
  rw [ecall_lib T_strings_Join (by decide) (by simp [F_strings_Join])]
  generalize hys : L.map GV.str = ys at hu
  cases hu with
  | nil =>
    have : L = [] := by cases L with
      | nil => rfl
      | cons _ _ => cases hys
    subst this
    rfl
  | sl _ t =>
    subst hys
    simp only [libH, libP, lJoin, F_strings_Join, hs, Option.bind_some, h32]
    have hc : (L.map GV.str).length ≤ 140737488355328 ∧ (Lib.join (L.map (·.data.toList)) [32]).length ≤ 140737488355328 := ⟨by rw [List.length_map]; omega, by omega⟩
    simp only [if_pos hc]
    rfl

theorem text_list (all : List Tk) (hall : all.length ≤ 1000) (hok : ∀ v ∈ all, tkOk v = true) (hl : (joinT all).length ≤ 100000) (u : GV) (hu : Elems 3 u (all.map tkG)) (H : GH) :
    ecall T f_lex_Text [u] H = some (.tup [.str ⟨(joinT all).toArray⟩, .bool true], H) := by
  have uu := hu.unb
  have lu := hu.len
  have hj : Lib.join ((all.map fun v => (⟨(tkText v).toArray⟩ : ByteArray)).map (·.data.toList)) [32] = joinT all := by
    rw [← join_joinT, List.map_map]
    congr 1
  apply optW.eq
  rw [ecall_1 T_lex_Text rfl (by simp [F_lex_Text]), wp_fin1]
  simp only [F_lex_Text, b_lex_Text]
  simp [uu, lu]
  rw [wp_seqK, wp_blockK]
  refine text_listL all hall hok u hu _ _ _ (Nat.le_refl _) _ (by simp [uu]) (by simp) (by simp) (by simp) ?_
  intro l g H' o e4 hE
  have hjl := join_list _ o hE (by rw [List.length_map]; exact hall) (by rw [hj]; exact hl) H'
  rw [hj] at hjl
  have hc : clean H.objs.length H.toks.length 100 (.tup [.str ⟨(joinT all).toArray⟩, .bool true]) = some (.tup [.str ⟨(joinT all).toArray⟩, .bool true]) := rfl
  generalize hB : (⟨(joinT all).toArray⟩ : ByteArray) = B at *
  simp [e4, hE.unb, hE.ok, hjl, hc]
end Go.Proofs.YtlmiihdkgaljoaaGreatDoor
