/- Own work: the shadow machine and what it shows, part To3. -/
import Derived.Test.YtlmiihdkgaljoaaGreatDoorTo2
import Derived.Test.YtlmiihdkgaljoaaGreatDoorRef
import Derived.Test.YtlmiihdkgaljoaaGreatDoorShF
set_option linter.all false

namespace Go.Proofs.YtlmiihdkgaljoaaGreatDoor
open Go.Sh
set_option maxRecDepth 100000

/-! ## The document's tokens -/

theorem in_ok (L : List ByteArray) (t : Tag) (w : ByteArray) (hL : L.length ≤ 1000) (H : GH) : ecall T f_hedgerowref18_in [.sl 1 (L.map .str) t, .str w] H = some (.bool (memB w L), H) := by
  have hv : Elems 1 (.sl 1 (L.map GV.str) t) (L.map GV.str) := .sl _ _
  apply optW.eq
  rw [ecall_0 T_hedgerowref18_in rfl (by simp [F_hedgerowref18_in]), wp_fin1]
  simp only [F_hedgerowref18_in, b_hedgerowref18_in]
  simp
  rw [wp_seqK, wp_blockK]
  refine range_loop (T := T) (n := L.length) (A := Unit) (fun _ _ => []) (fun i _ _ H' => H' = H ∧ ∀ x ∈ L.take i, x ≠ w) (c := 10) (b := 0) (I := 9) (N := 8) (d := 16) rfl (by omega) (by decide) ⟨rfl, rfl⟩ (by simp) ?_ ?_ 0 () _ _ H (by omega) ⟨rfl, by simp⟩ (by simp) (.refl _ _ _) (by simp) (by simp)
  · intro i a l g H' hi ⟨hH, hall⟩ hh hf hI
    subst hH
    have h7 := hf.get 7 rfl (v := .sl 1 (L.map GV.str) t) (by simp) rfl
    have h1 := hf.get 1 rfl (v := .str w) (by simp) rfl
    obtain ⟨lt, ix, opt, get, ⟨t', sl⟩, wr_, mem⟩ := at_ok (e := GV.str) hv hi (by omega)
    generalize L[i]'hi = x at opt get mem
    have htake : L.take (i + 1) = L.take i ++ [x] := by rw [List.take_add_one, opt]; rfl
    by_cases hx : x = w
    · subst hx
      have hm : memB x L = true := memB_iff.2 mem
      simp [h7, h1, hI, ix, opt, get, hm]
    · simp [h7, h1, hI, ix, opt, get, hx]
      refine fun _ y hy => ?_
      rw [htake] at hy
      rcases List.mem_append.1 hy with hy | hy
      · exact hall y hy
      · rw [List.mem_singleton] at hy; subst hy; exact hx
  · intro a l g H' ⟨hH, hall⟩ hh hf
    subst hH
    rw [List.take_length] at hall
    have hm : memB w L = false := by
      rw [Bool.eq_false_iff]; intro h; exact hall w (memB_iff.1 h) rfl
    simp [hm]

theorem rwords_ok (H : GH) : ecall T f_hedgerowref18_Words [] H = some (.sl 1 (wordsB.map .str) .exact, H) := ecall_iff.2 ⟨50, by kernel_rfl⟩
theorem rsigns_ok (H : GH) : ecall T f_hedgerowref18_Signs [] H = some (.sl 1 (signsB.map .str) .exact, H) := ecall_iff.2 ⟨50, by kernel_rfl⟩

theorem mem_wordsB (t : List UInt8) : memB (⟨t.toArray⟩ : ByteArray) wordsB = decide (t ∈ wordsL) := by
  rw [Bool.eq_iff_iff, memB_iff, mem_words]; simp
theorem mem_signsB (t : List UInt8) : memB (⟨t.toArray⟩ : ByteArray) signsB = decide (t ∈ signsL) := by
  rw [Bool.eq_iff_iff, memB_iff, mem_signs]; simp

/-- A token's text, and whether it may be. -/
theorem rone_ok (k n : Int) (t : List UInt8) (ht : t.length ≤ 1000) (hn1 : -9999999999999999 ≤ n) (hn2 : n ≤ 9999999999999999) (H : GH) :
    ∃ x : ByteArray, ecall T f_hedgerowref18_One [.agg [.int .i64 k, .int .i64 n, .str ⟨t.toArray⟩]] H = some (.tup [.str x, .bool (tokOk k n t)], H) ∧ (tokOk k n t = true → x.data.toList = tokText k n t) := by
  have hdt : (⟨t.toArray⟩ : ByteArray).data.toList = t := by simp
  have hzt : (⟨t.toArray⟩ : ByteArray).size = t.length := ba_size t
  have hnm := ref_Name ⟨t.toArray⟩ (by rw [hzt]; omega) H
  rw [hdt] at hnm
  have hcw := in_ok wordsB .exact ⟨t.toArray⟩ (by decide) H
  rw [mem_wordsB] at hcw
  have hcs := in_ok signsB .exact ⟨t.toArray⟩ (by decide) H
  rw [mem_signsB] at hcs
  have he0 : (⟨t.toArray⟩ : ByteArray) = ⟨#[]⟩ ↔ t = [] := by rw [← empty_iff, hdt]
  have hwo := rwords_ok H
  have hso := rsigns_ok H
  generalize hB : (⟨t.toArray⟩ : ByteArray) = B at *
  by_cases h1 : k = 1
  · subst h1
    refine ⟨B, ?_, fun _ => by simp [tokText, ← hB]⟩
    apply optW.eq
    rw [ecall_0 T_hedgerowref18_One rfl (by simp [F_hedgerowref18_One]), wp_fin1]
    by_cases hn : n = 0
    · cases hnv : nameL t <;> rw [hnv] at hnm
      · simp [F_hedgerowref18_One, b_hedgerowref18_One, hn, hnm, tokOk, hnv]
      · simp [F_hedgerowref18_One, b_hedgerowref18_One, hn, hnm, hwo, hcw, tokOk, hnv]
    · simp [F_hedgerowref18_One, b_hedgerowref18_One, hn, tokOk]
  · by_cases h2 : k = 2
    · subst h2
      refine ⟨B, ?_, fun _ => by simp [tokText, ← hB]⟩
      apply optW.eq
      rw [ecall_0 T_hedgerowref18_One rfl (by simp [F_hedgerowref18_One]), wp_fin1]
      by_cases hn : n = 0
      · simp [F_hedgerowref18_One, b_hedgerowref18_One, hn, hwo, hcw, tokOk]
      · simp [F_hedgerowref18_One, b_hedgerowref18_One, hn, tokOk]
    · by_cases h3 : k = 3
      · subst h3
        have hd := ref_Digits n hn1 hn2 H
        refine ⟨⟨(Lib.itoa n).toArray⟩, ?_, fun _ => by simp [tokText]⟩
        apply optW.eq
        rw [ecall_0 T_hedgerowref18_One rfl (by simp [F_hedgerowref18_One]), wp_fin1]
        by_cases ht0 : t = []
        · have hb0 := he0.2 ht0
          by_cases hg : 0 ≤ n
          · by_cases hl : n ≤ 1099511627776
            · simp [F_hedgerowref18_One, b_hedgerowref18_One, hd, hb0, ht0, hg, hl, tokOk]
            · simp [F_hedgerowref18_One, b_hedgerowref18_One, hd, hb0, ht0, hg, hl, tokOk]
          · simp [F_hedgerowref18_One, b_hedgerowref18_One, hd, hb0, ht0, hg, tokOk]
        · have hb0 : ¬ B = ⟨#[]⟩ := fun h => ht0 (he0.1 h)
          simp [F_hedgerowref18_One, b_hedgerowref18_One, hd, hb0, ht0, tokOk]
      · by_cases h4 : k = 4
        · subst h4
          have htx := ref_Text 3 0 B (by rw [hzt]; omega) H
          rw [hdt] at htx
          have hri := ref_Right 3 0 B (by rw [hzt]; omega) H
          rw [hdt] at hri
          refine ⟨⟨(txtV 3 0 t).toArray⟩, ?_, fun _ => by simp [tokText]⟩
          apply optW.eq
          rw [ecall_0 T_hedgerowref18_One rfl (by simp [F_hedgerowref18_One]), wp_fin1]
          by_cases hn : n = 0
          · simp [F_hedgerowref18_One, b_hedgerowref18_One, gFill, setPart, htx, hri, hn, tokOk]
          · simp [F_hedgerowref18_One, b_hedgerowref18_One, gFill, setPart, htx, hri, hn, tokOk]
        · by_cases h5 : k = 5
          · subst h5
            refine ⟨B, ?_, fun _ => by simp [tokText, ← hB]⟩
            apply optW.eq
            rw [ecall_0 T_hedgerowref18_One rfl (by simp [F_hedgerowref18_One]), wp_fin1]
            by_cases hn : n = 0
            · simp [F_hedgerowref18_One, b_hedgerowref18_One, hn, hso, hcs, tokOk]
            · simp [F_hedgerowref18_One, b_hedgerowref18_One, hn, tokOk]
          · have hk : tokOk k n t = false := by simp [tokOk, h1, h2, h3, h4, h5]
            refine ⟨⟨#[]⟩, ?_, fun h => by rw [hk] at h; cases h⟩
            rw [hk]
            apply optW.eq
            rw [ecall_0 T_hedgerowref18_One rfl (by simp [F_hedgerowref18_One]), wp_fin1]
            simp [F_hedgerowref18_One, b_hedgerowref18_One, h1, h2, h3, h4, h5]

/-! Runs. -/

theorem run_loop2 (s : ByteArray) (hs : s.size ≤ 100000) (k : Int) (p : UInt8 → Bool) (hp : (k = 1 ∧ p = inner) ∨ (k = 2 ∧ p = isDig)) (cs : List UInt8) : ∀ (i : Nat) (_ : s.data.toList.drop i = cs) (l : List GV) (g : Nat) (H : GH) (K : GExit × St → Prop)
    (_ : lget l 0 = .str s) (_ : lget l 1 = .int .i64 k) (_ : lget l 5 = .int .i64 i)
    (_ : ∀ l', lget l' 5 = .int .i64 ((i + (cs.takeWhile p).length : Nat) : Int) → K (.exit 0, ⟨⟨l', g⟩, H⟩)),
    optW (erun T (.loop L0_hedgerowref18_run) ⟨⟨l, g⟩, H⟩) K := by
  have hsz := bs_size s
  induction cs with
  | nil =>
    intro i hd l g H K h0 h1 h5 he
    have hlen := drop_none hd
    have hge : ¬ ((i : Int) < s.size) := by omega
    have hge' : ¬ (i < s.size) := by omega
    rw [run_loop]
    simp [L0_hedgerowref18_run, h0, h5, hge, hge']
    exact he _ (by simp [h5])
  | cons c cs ih =>
    intro i hd l g H K h0 h1 h5 he
    obtain ⟨hg, hi, hd'⟩ := drop_some hd
    have hlt : (i : Int) < s.size := by omega
    have hlt' : i < s.size := by omega
    have hix := ix_ok hlt
    have hw : IntKind.i64.wrap ((i : Int) + 1) = (i : Int) + 1 := wrap_i64' (by omega) (by omega)
    have hg' : s.data[i]? = some c := by simpa using hg
    have hgd : ∀ h : i < s.data.size, s.data[i]'h = c := fun h => by rw [Array.getElem?_eq_getElem h] at hg'; exact Option.some.inj hg'
    have hdig : isDig c = (decide ((48 : Int) ≤ c.toNat) && decide ((c.toNat : Int) ≤ 57)) := dig_cls
    have stop : p c = false → (i + ((c :: cs).takeWhile p).length) = i := fun h => by rw [List.takeWhile_cons, if_neg (by rw [h]; simp)]; simp
    have go : p c = true → (i + ((c :: cs).takeWhile p).length) = i + 1 + (cs.takeWhile p).length := fun h => by rw [List.takeWhile_cons, if_pos h]; simp; omega
    rw [run_loop, wp_seqK]
    rcases hp with ⟨rfl, rfl⟩ | ⟨rfl, rfl⟩
    · rcases cls c with h | h | h | h | h | h | h | h
      all_goals
        obtain ⟨a0, a1, a2, a3, a4, a5, a6, al, an⟩ := h
        simp only [decide_eq_true_eq, decide_eq_false_iff_not] at a0 a1 a2 a3 a4 a5 a6
        simp [L0_hedgerowref18_run, h0, h1, h5, hlt, hlt', hix, str_get, hg', hgd, a0, a1, a2, a3, a4, a5, a6, hw]
        first
          | exact he _ (by rw [stop an]; simp [h5])
          | (refine ih (i + 1) hd' _ g H K ?_ ?_ ?_ ?_
             · simp [h0]
             · simp [h1]
             · simp
             · intro l' e; exact he l' (by rw [go an]; exact e))
    · rcases cls c with h | h | h | h | h | h | h | h
      all_goals
        obtain ⟨a0, a1, a2, a3, a4, a5, a6, al, an⟩ := h
        rw [a4, a5] at hdig
        simp only [decide_eq_true_eq, decide_eq_false_iff_not] at a0 a1 a2 a3 a4 a5 a6
        simp [L0_hedgerowref18_run, h0, h1, h5, hlt, hlt', hix, str_get, hg', hgd, a0, a1, a2, a3, a4, a5, a6, hw]
        first
          | exact he _ (by rw [stop hdig]; simp [h5])
          | (refine ih (i + 1) hd' _ g H K ?_ ?_ ?_ ?_
             · simp [h0]
             · simp [h1]
             · simp
             · intro l' e; exact he l' (by rw [go hdig]; exact e))

theorem run_ok (s : ByteArray) (hs : s.size ≤ 100000) (k : Int) (p : UInt8 → Bool) (hp : (k = 1 ∧ p = inner) ∨ (k = 2 ∧ p = isDig)) (H : GH) : ecall T f_hedgerowref18_run [.str s, .int .i64 k] H = some (.int .i64 ((s.data.toList.takeWhile p).length : Int), H) := by
  apply optW.eq
  rw [ecall_0 T_hedgerowref18_run rfl (by simp [F_hedgerowref18_run]), wp_fin1]
  simp only [F_hedgerowref18_run, b_hedgerowref18_run]
  simp
  rw [wp_seqK, wp_blockK]
  refine run_loop2 s hs k p hp s.data.toList 0 rfl _ _ _ _ (by simp) (by simp) (by simp) ?_
  intro l' e
  rw [Nat.zero_add] at e
  simp [e]

theorem rtext_loop2 (s : ByteArray) (hs : s.size ≤ 100000) (m : Nat) : ∀ (cs : List UInt8) (_ : cs.length ≤ m) (i : Nat) (_ : s.data.toList.drop i = cs) (_ : i ≤ s.size + 1) (l : List GV) (g : Nat) (H : GH) (K : GExit × St → Prop)
    (_ : lget l 0 = .str s) (_ : lget l 3 = .int .i64 i)
    (_ : scanQ cs = none → ∀ l', K (.exit 0, ⟨⟨l', g⟩, H⟩))
    (_ : ∀ n, scanQ cs = some n → ∀ (l' : List GV), lget l' 2 = .int .i64 ((i + n : Nat) : Int) → K (.ret, ⟨⟨l', g⟩, H⟩)),
    optW (erun T (.loop L0_hedgerowref18_text) ⟨⟨l, g⟩, H⟩) K := by
  have hsz := bs_size s
  induction m with
  | zero =>
    intro cs hcs i hd hi l g H K h0 h3 hn he
    have : cs = [] := List.eq_nil_of_length_eq_zero (by omega)
    subst this
    have hge := drop_none hd
    have h1 : ¬ ((i : Int) < s.size) := by omega
    have h1' : ¬ (i < s.size) := by omega
    rw [run_loop]
    simp [L0_hedgerowref18_text, h0, h3, h1, h1']
    exact hn rfl _
  | succ m ih =>
    intro cs hcs i hd hi l g H K h0 h3 hn he
    cases cs with
    | nil =>
      have hge := drop_none hd
      have h1 : ¬ ((i : Int) < s.size) := by omega
      have h1' : ¬ (i < s.size) := by omega
      rw [run_loop]
      simp [L0_hedgerowref18_text, h0, h3, h1, h1']
      exact hn rfl _
    | cons c r =>
      simp only [List.length_cons] at hcs
      obtain ⟨hg, hi2, hd'⟩ := drop_some hd
      have hlt : (i : Int) < s.size := by omega
      have hlt' : i < s.size := by omega
      have hix := ix_ok hlt
      have hg' : s.data[i]? = some c := by simpa using hg
      have hgd : ∀ h : i < s.data.size, s.data[i]'h = c := fun h => by rw [Array.getElem?_eq_getElem h] at hg'; exact Option.some.inj hg'
      have hw : IntKind.i64.wrap ((i : Int) + 1) = (i : Int) + 1 := wrap_i64' (by omega) (by omega)
      have hw2 : IntKind.i64.wrap ((i : Int) + 1 + 1) = (i : Int) + 1 + 1 := wrap_i64' (by omega) (by omega)
      by_cases h92 : c = 92
      · subst h92
        rw [run_loop, wp_seqK]
        simp [L0_hedgerowref18_text, h0, h3, hlt, hlt', hix, str_get, hg', hgd, hw, hw2]
        have hd2 : s.data.toList.drop (i + 2) = r.drop 1 := by rw [← hd', List.drop_drop]
        refine ih (r.drop 1) (by rw [List.length_drop]; omega) (i + 2) hd2 (by omega) _ g H K ?_ ?_ ?_ ?_
        · simp [h0]
        · simp; omega
        · intro hh; exact hn (by rw [scan_esc, hh]; rfl)
        · intro n hh l' e2
          have := he (n + 2) (by rw [scan_esc, hh]; rfl) l'
          rw [show i + (n + 2) = i + 2 + n by omega] at this
          exact this e2
      · have n2 : ¬ c.toNat = 92 := fun h => h92 (UInt8.toNat_inj.1 h)
        have b2 : ¬ (c.toNat : Int) = 92 := by omega
        by_cases h39 : c = 39
        · subst h39
          have he1 := he 1 (scan_quote r)
          rw [run_loop, wp_seqK]
          simp [L0_hedgerowref18_text, h0, h3, hlt, hlt', hix, str_get, hg', hgd, hw]
          exact he1 _ (by simp)
        · have n1 : ¬ c.toNat = 39 := fun h => h39 (UInt8.toNat_inj.1 h)
          have b1 : ¬ (c.toNat : Int) = 39 := by omega
          rw [run_loop, wp_seqK]
          simp [L0_hedgerowref18_text, h0, h3, hlt, hlt', hix, str_get, hg', hgd, hw, n1, n2, b1, b2]
          refine ih r (by omega) (i + 1) hd' (by omega) _ g H K ?_ ?_ ?_ ?_
          · simp [h0]
          · simp
          · intro hh; exact hn (by rw [scan_other h92 h39, hh]; rfl)
          · intro n hh l' e2
            have := he (n + 1) (by rw [scan_other h92 h39, hh]; rfl) l'
            rw [show i + (n + 1) = i + 1 + n by omega] at this
            exact this e2

theorem rtext_ok (s : ByteArray) (hs : s.size ≤ 100000) (c : UInt8) (r : List UInt8) (h : s.data.toList = c :: r) (H : GH) :
    ecall T f_hedgerowref18_text [.str s] H = some (.int .i64 ((match scanQ r with | some n => n + 1 | none => 0 : Nat) : Int), H) := by
  apply optW.eq
  rw [ecall_0 T_hedgerowref18_text rfl (by simp [F_hedgerowref18_text]), wp_fin1]
  simp only [F_hedgerowref18_text, b_hedgerowref18_text]
  simp
  rw [wp_seqK, wp_blockK]
  refine rtext_loop2 s hs s.size r (by rw [bs_size, h]; simp) 1 (by rw [h]; rfl) (by omega) _ _ _ _ (by simp) (by simp) ?_ ?_
  · intro hn l'
    simp [hn]
  · intro n hn l' e2
    simp [e2, hn]
    omega

theorem size_ok (s : ByteArray) (hs : s.size ≤ 100000) (c : UInt8) (r : List UInt8) (h : s.data.toList = c :: r) (H : GH) : ecall T f_hedgerowref18_size [.str s] H = some (.int .i64 (sizeC c r : Int), H) := by
  have hsz := bs_size s
  have hpos : 1 ≤ s.size := by rw [hsz, h]; simp
  have hix : gIx s.size (.int .i64 0) = some 0 := ix_ok (i := 0) (by omega)
  have hg0 : s.data[0]? = some c := by
    have : s.data.toList[0]? = some c := by rw [h]; rfl
    simpa using this
  have hgd : ∀ h : 0 < s.data.size, s.data[0]'h = c := fun h => by rw [Array.getElem?_eq_getElem h] at hg0; exact Option.some.inj hg0
  have hr1 := run_ok s hs 1 inner (.inl ⟨rfl, rfl⟩) H
  have hr2 := run_ok s hs 2 isDig (.inr ⟨rfl, rfl⟩) H
  have hrt := rtext_ok s hs c r h H
  have hso := rsigns_ok H
  rw [h] at hr1 hr2
  have hdig : isDig c = (decide ((48 : Int) ≤ c.toNat) && decide ((c.toNat : Int) ≤ 57)) := dig_cls
  obtain ⟨hgb1, hex1⟩ := pre_cut (s := s) (n := 1) (by omega)
  have hin1 := in_ok signsB .exact ⟨((c :: r).take 1).toArray⟩ (by decide) H
  rw [mem_signsB] at hin1
  rw [h] at hex1
  have t1 : (c :: r).take 1 = [c] := rfl
  rw [t1] at hin1 hex1
  have hgb1' : gBounds s.size false true false [.int .i64 1] = some (0, 1, none) := hgb1
  apply optW.eq
  rw [ecall_0 T_hedgerowref18_size rfl (by simp [F_hedgerowref18_size]), wp_fin1]
  simp only [F_hedgerowref18_size, b_hedgerowref18_size]
  unfold sizeC
  by_cases h39 : c = 39
  · subst h39
    have e1 : isDig 39 = false := by decide
    have e2 : letter 39 = false := by decide
    simp [hix, str_get, hg0, hgd, hrt, e1, e2]
    rfl
  · have n39 : ¬ c.toNat = 39 := fun h => h39 (UInt8.toNat_inj.1 h)
    have m39 : ¬ (c.toNat : Int) = 39 := by omega
    by_cases hl2 : (1 : Int) < s.size
    · have hl2' : 1 < s.size := by omega
      have hl2'' : 1 < (c :: r).length := by rw [← h, ← hsz]; exact hl2'
      obtain ⟨hgb2, hex2⟩ := pre_cut (s := s) (n := 2) (by omega)
      have hgb2' : gBounds s.size false true false [.int .i64 2] = some (0, 2, none) := hgb2
      have hin2 := in_ok signsB .exact ⟨((c :: r).take 2).toArray⟩ (by decide) H
      rw [mem_signsB] at hin2
      rw [h] at hex2
      have hrp : 0 < r.length := by simp at hl2''; exact hl2''
      have t2 : (c :: r).take 2 = c :: r.take 1 := rfl
      rw [t2] at hex2 hin2
      generalize hB1 : (⟨[c].toArray⟩ : ByteArray) = B1 at *
      generalize hB2 : (⟨(c :: r.take 1).toArray⟩ : ByteArray) = B2 at *
      by_cases hm2 : c :: r.take 1 ∈ signsL
      · rw [decide_eq_true hm2] at hin2
        rcases cls c with h | h | h | h | h | h | h | h
        all_goals
          obtain ⟨a0, a1, a2, a3, a4, a5, a6, al, an⟩ := h
          rw [a4, a5] at hdig
          simp only [decide_eq_true_eq, decide_eq_false_iff_not] at a0 a1 a2 a3 a4 a5 a6
          simp [hix, str_get, hg0, hgd, hr1, hr2, a0, a1, a2, a3, a4, a5, a6, hdig, al, h39, n39, m39, hl2, hl2', hrp, hso, hgb2', hex2, hin2, hm2]
      · rw [decide_eq_false hm2] at hin2
        by_cases hm1 : [c] ∈ signsL
        · rw [decide_eq_true hm1] at hin1
          rcases cls c with h | h | h | h | h | h | h | h
          all_goals
            obtain ⟨a0, a1, a2, a3, a4, a5, a6, al, an⟩ := h
            rw [a4, a5] at hdig
            simp only [decide_eq_true_eq, decide_eq_false_iff_not] at a0 a1 a2 a3 a4 a5 a6
            simp [hix, str_get, hg0, hgd, hr1, hr2, a0, a1, a2, a3, a4, a5, a6, hdig, al, h39, n39, m39, hl2, hl2', hrp, hso, hgb2', hex2, hin2, hm2, hgb1', hex1, hin1, hm1]
        · rw [decide_eq_false hm1] at hin1
          rcases cls c with h | h | h | h | h | h | h | h
          all_goals
            obtain ⟨a0, a1, a2, a3, a4, a5, a6, al, an⟩ := h
            rw [a4, a5] at hdig
            simp only [decide_eq_true_eq, decide_eq_false_iff_not] at a0 a1 a2 a3 a4 a5 a6
            simp [hix, str_get, hg0, hgd, hr1, hr2, a0, a1, a2, a3, a4, a5, a6, hdig, al, h39, n39, m39, hl2, hl2', hrp, hso, hgb2', hex2, hin2, hm2, hgb1', hex1, hin1, hm1]
    · have hl2' : ¬ 1 < s.size := by omega
      have hrp : ¬ 0 < r.length := by rw [hsz, h] at hl2'; simpa using hl2'
      generalize hB1 : (⟨[c].toArray⟩ : ByteArray) = B1 at *
      by_cases hm1 : [c] ∈ signsL
      · rw [decide_eq_true hm1] at hin1
        rcases cls c with h | h | h | h | h | h | h | h
        all_goals
          obtain ⟨a0, a1, a2, a3, a4, a5, a6, al, an⟩ := h
          rw [a4, a5] at hdig
          simp only [decide_eq_true_eq, decide_eq_false_iff_not] at a0 a1 a2 a3 a4 a5 a6
          simp [hix, str_get, hg0, hgd, hr1, hr2, a0, a1, a2, a3, a4, a5, a6, hdig, al, h39, n39, m39, hl2, hl2', hrp, hso, hgb1', hex1, hin1, hm1]
      · rw [decide_eq_false hm1] at hin1
        rcases cls c with h | h | h | h | h | h | h | h
        all_goals
          obtain ⟨a0, a1, a2, a3, a4, a5, a6, al, an⟩ := h
          rw [a4, a5] at hdig
          simp only [decide_eq_true_eq, decide_eq_false_iff_not] at a0 a1 a2 a3 a4 a5 a6
          simp [hix, str_get, hg0, hgd, hr1, hr2, a0, a1, a2, a3, a4, a5, a6, hdig, al, h39, n39, m39, hl2, hl2', hrp, hso, hgb1', hex1, hin1, hm1]
end Go.Proofs.YtlmiihdkgaljoaaGreatDoor
