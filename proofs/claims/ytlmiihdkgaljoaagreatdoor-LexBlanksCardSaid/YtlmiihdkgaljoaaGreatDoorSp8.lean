/- Own work, over the shadow machine: LSpec8. -/
import Derived.Test.YtlmiihdkgaljoaaGreatDoorSp7
set_option linter.all false
namespace Go.Proofs.YtlmiihdkgaljoaaGreatDoor
open Go.Sh
set_option maxRecDepth 100000

/-! ## Blanks ahead are taken off -/

theorem trim_loop (n : Nat) (q : List UInt8) (hq : q.head? ≠ some 32) : ∀ (s : ByteArray) (_ : s.data.toList = List.replicate n 32 ++ q) (l : List GV) (g : Nat) (H : GH) (K : GExit × St → Prop)
    (_ : lget l 0 = .str s) (_ : lget l 1 = .int .u8 32)
    (_ : ∀ (l' : List GV) (s' : ByteArray), s'.data.toList = q → lget l' 0 = .str s' → K (.exit 0, ⟨⟨l', g⟩, H⟩)),
    optW (erun T (.loop L0_strings_trimLeftByte) ⟨⟨l, g⟩, H⟩) K := by
  induction n with
  | zero =>
    intro s hs l g H K h0 h1 he
    simp only [List.replicate_zero, List.nil_append] at hs
    have hsz := bs_size s
    rw [hs] at hsz
    cases q with
    | nil =>
      have hs0 : s.size = 0 := hsz
      have hge : ¬ ((0 : Int) < s.size) := by omega
      have hge' : ¬ (0 < s.size) := by omega
      rw [run_loop]
      simp [L0_strings_trimLeftByte, h0, hge, hge']
      exact he _ s hs (by simp [h0])
    | cons c q =>
      have hc : ¬ c = 32 := fun h => hq (by rw [h]; rfl)
      have n1 : ¬ c.toNat = 32 := fun h => hc (UInt8.toNat_inj.1 h)
      have m1 : ¬ (c.toNat : Int) = 32 := by omega
      have hs1 : s.size = q.length + 1 := hsz
      have hp : (0 : Int) < s.size := by omega
      have hp' : 0 < s.size := by omega
      have hix : gIx s.size (.int .i64 0) = some 0 := ix_ok (i := 0) (by omega)
      have hg0 : s.data[0]? = some c := by
        have : s.data.toList[0]? = some c := by rw [hs]; rfl
        simpa using this
      have hgd : ∀ h : 0 < s.data.size, s.data[0]'h = c := fun h => by rw [Array.getElem?_eq_getElem h] at hg0; exact Option.some.inj hg0
      rw [run_loop]
      simp [L0_strings_trimLeftByte, h0, h1, hp, hp', hix, str_get, hg0, hgd, n1, m1]
      exact he _ s hs (by simp [h0])
  | succ n ih =>
    intro s hs l g H K h0 h1 he
    have hs1 : s.data.toList = 32 :: (List.replicate n 32 ++ q) := by rw [hs]; rfl
    have hsz := bs_size s
    rw [hs1] at hsz
    simp only [List.length_cons] at hsz
    have hp : (0 : Int) < s.size := by omega
    have hp' : 0 < s.size := by omega
    have hix : gIx s.size (.int .i64 0) = some 0 := ix_ok (i := 0) (by omega)
    have hg0 : s.data[0]? = some 32 := by
      have : s.data.toList[0]? = some 32 := by rw [hs1]; rfl
      simpa using this
    have hgd : ∀ h : 0 < s.data.size, s.data[0]'h = 32 := fun h => by rw [Array.getElem?_eq_getElem h] at hg0; exact Option.some.inj hg0
    have e1 : gBound s.size (.int .i64 1) = some 1 := by simp only [gBound]; rw [if_pos (by omega)]; rfl
    have hgb : gBounds s.size true false false [.int .i64 1] = some (1, s.size, none) := by simp [gBounds, e1]
    have hx : (s.extract 1 s.size).data.toList = List.replicate n 32 ++ q := by
      rw [Lib.extract_data, hs1, List.drop_one, List.tail_cons, List.take_of_length_le (by omega)]
    rw [run_loop, wp_seqK]
    simp [L0_strings_trimLeftByte, h0, h1, hp, hp', hix, str_get, hg0, hgd, hgb]
    refine ih (s.extract 1 s.size) hx _ g H K ?_ ?_ ?_
    · simp
    · simp [h1]
    · exact he

theorem trim_ok (n : Nat) (q : List UInt8) (hq : q.head? ≠ some 32) (s : ByteArray) (hs : s.data.toList = List.replicate n 32 ++ q) (H : GH) :
    ∃ s', s'.data.toList = q ∧ ecall T f_strings_TrimLeft [.str s, .str ⟨#[32]⟩] H = some (.str s', H) := by
  by_cases h0 : s = ⟨#[]⟩
  · have h1 : s.data.toList = [] := by rw [h0]
    have hqn : q = [] := by
      rw [hs] at h1
      exact (List.append_eq_nil_iff.1 h1).2
    refine ⟨s, by rw [h1, hqn], ?_⟩
    apply optW.eq
    rw [ecall_0 T_strings_TrimLeft rfl (by simp [F_strings_TrimLeft]), wp_fin1]
    simp [F_strings_TrimLeft, b_strings_TrimLeft, h0]
  · have hb : ∃ s', s'.data.toList = q ∧ ecall T f_strings_trimLeftByte [.str s, .int .u8 32] H = some (.str s', H) := by
      have key : optW (ecall T f_strings_trimLeftByte [.str s, .int .u8 32] H) fun r => ∃ s', s'.data.toList = q ∧ r = (.str s', H) := by
        rw [ecall_0 T_strings_trimLeftByte rfl (by simp [F_strings_trimLeftByte]), wp_fin1]
        simp only [F_strings_trimLeftByte, b_strings_trimLeftByte]
        simp
        rw [wp_seqK, wp_blockK]
        refine trim_loop n q hq s hs _ _ _ _ ?_ ?_ ?_
        · simp
        · simp
        · intro l' s' e1 e2
          simp [e2, e1]
      obtain ⟨v, h, s', h1, rfl⟩ := key
      exact ⟨s', h1, h⟩
    obtain ⟨s', h1, h2⟩ := hb
    refine ⟨s', h1, ?_⟩
    have hz : (⟨#[32]⟩ : ByteArray).size = 1 := rfl
    have hn2 : (⟨#[32]⟩ : ByteArray) ≠ ⟨#[]⟩ := by decide
    have hix1 : gIx 1 (.int .i64 0) = some 0 := by decide
    apply optW.eq
    rw [ecall_0 T_strings_TrimLeft rfl (by simp [F_strings_TrimLeft]), wp_fin1]
    simp [F_strings_TrimLeft, b_strings_TrimLeft, h0, hz, hn2, hix1, str_get, h2]

/-! ## Tokens of texts with blanks ahead -/

abbrev Tk := Int × Int × List UInt8
def tkG (v : Tk) : GV := tokG v.1 v.2.1 v.2.2
def tkText (v : Tk) : List UInt8 := tokText v.1 v.2.1 v.2.2
def tkOk (v : Tk) : Bool := tokOk v.1 v.2.1 v.2.2

/-- Texts, with blanks ahead of each. -/
def wideL : List (Nat × Tk) → List UInt8
  | [] => []
  | (n, v) :: r => List.replicate n 32 ++ (tkText v ++ wideL r)

theorem wide_head (bl : List (Nat × Tk)) (h : ∀ b ∈ bl, 1 ≤ b.1) (p : Nat) (hp : 1 ≤ p) : ∃ r, wideL bl ++ List.replicate p 32 = 32 :: r := by
  cases bl with
  | nil =>
    obtain ⟨q, rfl⟩ : ∃ q, p = q + 1 := ⟨p - 1, by omega⟩
    exact ⟨List.replicate q 32, rfl⟩
  | cons b bl =>
    obtain ⟨n, v⟩ := b
    have := h (n, v) (by simp)
    obtain ⟨q, rfl⟩ : ∃ q, n = q + 1 := ⟨n - 1, by simp at this; omega⟩
    exact ⟨_, rfl⟩

theorem blocks_loop (p : Nat) (hp : 1 ≤ p) (bl : List (Nat × Tk)) : ∀ (_ : ∀ b ∈ bl, 1 ≤ b.1 ∧ tkOk b.2 = true ∧ b.2.2.2.length ≤ 200) (s : ByteArray) (_ : s.size ≤ 100000) (_ : s.data.toList = wideL bl ++ List.replicate p 32) (l : List GV) (g : Nat) (H : GH) (K : GExit × St → Prop) (done : List Tk) (o : GV)
    (_ : lget l 0 = .str s) (_ : lget l 4 = o) (_ : App H 3 o (done.map tkG)) (_ : H.bt ≤ H.toks.length) (_ : done.length + bl.length ≤ 5000)
    (_ : ∀ (l' : List GV) (g' : Nat) (H' : GH) (o' : GV), lget l' 2 = o' → lget l' 3 = .int .i64 0 → App H' 3 o' ((done ++ bl.map (·.2)).map tkG) → K (.ret, ⟨⟨l', g'⟩, H'⟩)),
    optW (erun T (.loop L0_lex_Tokens) ⟨⟨l, g⟩, H⟩) K := by
  induction bl with
  | nil =>
    intro hbl s hss hs l g H K done o h0 h4 hA hbt hk he
    obtain ⟨s', e1, ht⟩ := trim_ok p [] (by simp) s (by rw [hs]; simp [wideL]) H
    have hse : s' = ⟨#[]⟩ := ba_ext (by rw [e1])
    subst hse
    rw [run_loop]
    simp [L0_lex_Tokens, h0, ht, h4, App.unbox hA]
    exact he _ _ H o (by simp) (by simp) (by simpa using hA)
  | cons b bl ih =>
    intro hbl s hss hs l g H K done o h0 h4 hA hbt hk he
    obtain ⟨n, k, m, t⟩ := b
    obtain ⟨hn, hok, ht⟩ := hbl (n, k, m, t) (by simp)
    obtain ⟨r, hr⟩ := wide_head bl (fun b hb => (hbl b (by simp [hb])).1) p hp
    have hq : (tokText k m t ++ (wideL bl ++ List.replicate p 32)) = tokText k m t ++ 32 :: r := by rw [hr]
    have hsl : s.data.toList = List.replicate n 32 ++ (tokText k m t ++ 32 :: r) := by
      rw [hs, ← hq]; simp [wideL, tkText]
    have hszs := bs_size s
    rw [hsl, List.length_append, List.length_append] at hszs
    have hbig : ∀ s' : ByteArray, s'.data.toList = tokText k m t ++ 32 :: r → s'.size ≤ 100000 := by
      intro s' e
      rw [bs_size, e, List.length_append]; omega
    -- the text's head is no blank
    have hnb : (tokText k m t ++ 32 :: r).head? ≠ some 32 := by
      have := (next_ok ⟨(tokText k m t ++ 32 :: r).toArray⟩ (hbig _ (by simp)) k m t r hok ht (by simp) H).1
      obtain ⟨c, q, hcq, hc⟩ := this
      rw [hcq]
      simpa using hc
    obtain ⟨s', e1, htr⟩ := trim_ok n _ hnb s hsl H
    obtain ⟨⟨c, q, hcq, hc⟩, hnx⟩ := next_ok s' (hbig s' e1) k m t r hok ht e1 H
    have hne : ¬ s' = ⟨#[]⟩ := by
      intro h
      rw [h, hcq] at e1
      cases e1
    have hs'z := bs_size s'
    rw [e1, List.length_append] at hs'z
    have hgb1 : gBound s'.size (.int .i64 ((tokText k m t).length : Int)) = some (tokText k m t).length := by simp only [gBound]; rw [if_pos (by omega)]; simp
    have hgb : gBounds s'.size true false false [.int .i64 ((tokText k m t).length : Int)] = some ((tokText k m t).length, s'.size, none) := by simp [gBounds, hgb1]
    have hx : (s'.extract (tokText k m t).length s'.size).data.toList = wideL bl ++ List.replicate p 32 := by
      rw [Lib.extract_data, e1, hr, List.drop_left, List.take_of_length_le (by omega)]
    have hxz : (s'.extract (tokText k m t).length s'.size).size ≤ 100000 := by
      rw [bs_size, hx, hr]; omega
    simp only [List.length_cons] at hk
    obtain ⟨o', H', hap, hA', hstep, _⟩ := append_ok (ty := 30) (bytes := 32) (x := .sl 3 [tokG k m t] .exact) (ys := [tokG k m t]) hA (by simp [gNews]) hbt (by simp [room]; omega) (by simp [maxLen]; omega)
    have hbt' : H'.bt ≤ H'.toks.length := hstep.btle hbt
    have hmm : done.map tkG ++ [tokG k m t] = (done ++ [(k, m, t)]).map tkG := by simp [tkG]
    rw [hmm] at hA'
    simp only [tokG] at hnx hap
    rw [run_loop, wp_seqK]
    simp [L0_lex_Tokens, h0, htr, hne, hnx, setPart, h4, App.unbox hA, App.unbox hA', gSetAll, hap, hgb]
    refine ih (fun b hb => hbl b (by simp [hb])) _ hxz hx _ _ H' K (done ++ [(k, m, t)]) o' ?_ ?_ hA' hbt' (by simp; omega) ?_
    · simp
    · simp
    · intro l' g' H2 o2 f2 f3 f4
      exact he l' g' H2 o2 f2 f3 (by simpa using f4)

theorem clean_tks (a b n : Nat) (L : List Tk) : (L.map tkG).mapM (clean a b (n + 2)) = some (L.map tkG) := by
  induction L with
  | nil => rfl
  | cons v L ih =>
    have h1 : clean a b (n + 2) (tkG v) = some (tkG v) := rfl
    rw [List.map_cons, List.mapM_cons, h1, ih]; rfl

theorem tokens_blocks (s : ByteArray) (hs : s.size ≤ 2000) (p : Nat) (hp : 1 ≤ p) (bl : List (Nat × Tk)) (hbl : ∀ b ∈ bl, 1 ≤ b.1 ∧ tkOk b.2 = true ∧ b.2.2.2.length ≤ 200) (hl : bl.length ≤ 100) (h : s.data.toList = wideL bl ++ List.replicate p 32) (H : GH) :
    ∃ v, Elems 3 v ((bl.map (·.2)).map tkG) ∧ ecall T f_lex_Tokens [.str s] H = some (.tup [v, .int .i64 0], H) := by
  have h20 : ¬ ((2000 : Int) < s.size) := by omega
  have h20' : ¬ (2000 < s.size) := by omega
  have key : optW (ecall T f_lex_Tokens [.str s] H) fun r => ∃ v, Elems 3 v ((bl.map (·.2)).map tkG) ∧ r = (.tup [v, .int .i64 0], H) := by
    rw [ecall_1 T_lex_Tokens rfl (by simp [F_lex_Tokens]), wp_fin1]
    simp only [F_lex_Tokens, b_lex_Tokens]
    simp [h20, h20']
    rw [wp_blockK]
    refine blocks_loop p hp bl hbl s (by omega) h _ _ _ _ [] .nilsl ?_ ?_ .nil (Nat.le_refl _) (by simp; omega) ?_
    · simp
    · simp
    · intro l' g' H' o' f2 f3 f4
      rw [List.nil_append] at f4
      have hok := f4.ok
      have hcl : ∃ v, Elems 3 v ((bl.map (·.2)).map tkG) ∧ clean H.objs.length H.toks.length 100 (.tup [o', .int .i64 0]) = some (.tup [v, .int .i64 0]) := by
        generalize hxs : (bl.map (·.2)).map tkG = xs at f4 ⊢
        have hcr : ∀ n, xs.mapM (clean H.objs.length H.toks.length (n + 2)) = some xs := fun n => by rw [← hxs]; exact clean_tks _ _ n _
        cases f4 with
        | nil => exact ⟨.nilsl, .nil, clean_tup2 (n := 99) rfl rfl⟩
        | exact =>
          obtain ⟨t, ht⟩ := clean_sl (sz := 3) (tag := .exact) (hcr 96)
          exact ⟨_, .sl _ t, clean_tup2 (n := 99) ht rfl⟩
        | tok _ _ _ =>
          obtain ⟨t, ht⟩ := clean_sl (sz := 3) (tag := .tok _ _ _) (hcr 96)
          exact ⟨_, .sl _ t, clean_tup2 (n := 99) ht rfl⟩
      obtain ⟨v, hE, hcv⟩ := hcl
      simp only [List.map_map] at hE
      simp [f2, f3, hok, hcv]
      exact hE
  obtain ⟨x, h, v, hv, rfl⟩ := key
  exact ⟨v, hv, h⟩
end Go.Proofs.YtlmiihdkgaljoaaGreatDoor
