/- Own work: the shadow machine and what it shows, part Vs. -/
import Derived.Test.YthmplnbogdfajaaGreatDoorCo
import Derived.Test.YthmplnbogdfajaaGreatDoorLv
import Derived.Test.YthmplnbogdfajaaGreatDoorRowA
set_option linter.all false

namespace Go.Proofs.YthmplnbogdfajaaGreatDoor
open Go.Sh
set_option maxHeartbeats 4000000
set_option maxRecDepth 100000

/-! ## hedgerowref01.Compare -/

/-- At the first place where two rows differ. -/
def diff : List UInt8 → List UInt8 → Option Int
  | x :: a, y :: b => if x = y then diff a b else some (if x < y then -1 else 1)
  | _, _ => none

theorem u8_lt {x y : UInt8} : (x.toNat : Int) < y.toNat ↔ x < y := by
  rw [UInt8.lt_iff_toNat_lt]; omega

theorem refc_loop (a b : ByteArray) (ha : a.size ≤ 9223372036854775807) (k1 k2 m1 m2 : GV) (g2 g3 : Nat) (cs : List UInt8) : ∀ (i : Nat) (_ : a.data.toList.drop i = cs) (l : List GV) (g : Nat) (H : GH) (K : GExit × St → Prop)
    (_ : lget l 2 = .lbox g2 [k1, m1, .str a]) (_ : lget l 3 = .lbox g3 [k2, m2, .str b]) (_ : lget l 5 = .int .i64 i)
    (_ : ∀ l' v, diff cs (b.data.toList.drop i) = some v → lget l' 4 = .int .i64 v → K (.ret, ⟨⟨l', g⟩, H⟩))
    (_ : ∀ l', diff cs (b.data.toList.drop i) = none → lget l' 2 = lget l 2 → lget l' 3 = lget l 3 → K (.exit 0, ⟨⟨l', g⟩, H⟩)),
    optW (erun T (.loop L0_hedgerowref01_Compare) ⟨⟨l, g⟩, H⟩) K := by
  induction cs with
  | nil =>
    intro i hd l g H K h2 h3 h5 hr he
    have hlen := drop_none hd
    have hge : ¬ ((i : Int) < a.size) := by
      have : a.size = a.data.toList.length := by simp
      omega
    rw [run_loop]
    simp [L0_hedgerowref01_Compare, h2, h3, h5, hge]
    exact he _ (by simp [diff]) (by simp [h2]) (by simp [h3])
  | cons c cs ih =>
    intro i hd l g H K h2 h3 h5 hr he
    obtain ⟨hg, hi, hd'⟩ := drop_some hd
    have hsz : a.size = a.data.toList.length := by simp
    have hlt : (i : Int) < a.size := by omega
    have hix : gIx a.size (.int .i64 i) = some i := by
      simp only [gIx]; rw [if_pos (by omega)]; simp
    have hw : IntKind.i64.wrap ((i : Int) + 1) = (i : Int) + 1 := wrap_i64' (by omega) (by omega)
    rw [run_loop, wp_seqK]
    cases hbd : b.data.toList.drop i with
    | nil =>
      have hlenb := drop_none hbd
      have hge : ¬ ((i : Int) < b.size) := by
        have : b.size = b.data.toList.length := by simp
        omega
      simp [L0_hedgerowref01_Compare, h2, h3, h5, hlt, hge]
      exact he _ (by rw [hbd]; rfl) (by simp [h2]) (by simp [h3])
    | cons d ds =>
      obtain ⟨hgb, hib, hdb⟩ := drop_some hbd
      have hg' : a.data[i]? = some c := by simpa using hg
      have hgb' : b.data[i]? = some d := by simpa using hgb
      have hszb : b.size = b.data.toList.length := by simp
      have hltb : (i : Int) < b.size := by omega
      have hixb : gIx b.size (.int .i64 i) = some i := by
        simp only [gIx]; rw [if_pos (by omega)]; simp
      by_cases hcd : c = d
      · subst hcd
        simp [L0_hedgerowref01_Compare, h2, h3, h5, hlt, hltb, hix, hixb, str_get, hg', hgb', hw]
        refine ih (i + 1) hd' _ g H K ?_ ?_ ?_ ?_ ?_
        · simp [h2]
        · simp [h3]
        · simp
        · intro l' v h h4
          refine hr l' v ?_ h4
          rw [hbd]; simpa [diff, hdb] using h
        · intro l' h p q
          refine he l' ?_ (by rw [p]; simp) (by rw [q]; simp)
          rw [hbd]; simpa [diff, hdb] using h
      · have hne : ¬ ((c.toNat : Int) = d.toNat) := fun h => hcd (u8_ne.1 h)
        by_cases hlt2 : c < d
        · have hlt3 := u8_lt.2 hlt2
          simp [L0_hedgerowref01_Compare, h2, h3, h5, hlt, hltb, hix, hixb, str_get, hg', hgb', hne, hlt3]
          refine hr _ (-1) ?_ ?_
          · rw [hbd]; simp [diff, hcd, hlt2]
          · simp
        · have hlt3 : ¬ ((c.toNat : Int) < d.toNat) := fun h => hlt2 (u8_lt.1 h)
          simp [L0_hedgerowref01_Compare, h2, h3, h5, hlt, hltb, hix, hixb, str_get, hg', hgb', hne, hlt3]
          refine hr _ 1 ?_ ?_
          · rw [hbd]; simp [diff, hcd, hlt2]
          · simp

theorem lex_diff : ∀ (a b : List UInt8), (match diff a b with | some v => v | none => cmpI a.length b.length) = lexL a b
  | [], [] => by simp [diff, lexL, cmpI]
  | [], y :: b => by
    have : ((0 : Nat) : Int) < ((y :: b).length : Int) := by simp
    simp only [diff, lexL, cmpI, List.length_nil]
    rw [if_pos this]
  | x :: a, [] => by
    have : ((0 : Nat) : Int) < ((x :: a).length : Int) := by simp
    simp only [diff, lexL, cmpI, List.length_nil]
    rw [if_neg (by omega), if_pos this]
  | x :: a, y :: b => by
    have ih := lex_diff a b
    by_cases h : x = y
    · subst h
      simp only [diff, lexL, if_true]
      rw [← ih]
      cases diff a b with
      | some v => rfl
      | none =>
        simp only [cmpI, List.length_cons]
        congr 1
        · simp
        · simp
    · simp [diff, lexL, h]


def refS (a b : ByteArray) : Int := match diff a.data.toList b.data.toList with
  | some v => v
  | none => cmpI a.size b.size

def refV (k n : Int) (s : ByteArray) (k' n' : Int) (s' : ByteArray) : Int :=
  if k ≠ k' then (if k < k' then -1 else 1) else if n ≠ n' then (if n < n' then -1 else 1) else refS s s'

theorem ref_cmp (k n : Int) (s : ByteArray) (k' n' : Int) (s' : ByteArray) (hs : s.size ≤ 9223372036854775807) (H : GH) : ecall T f_hedgerowref01_Compare [.agg [.int .i64 k, .int .i64 n, .str s], .agg [.int .i64 k', .int .i64 n', .str s']] H = some (.int .i64 (refV k n s k' n' s'), H) := by
  apply optW.eq
  rw [ecall_0 T_hedgerowref01_Compare rfl (by simp [F_hedgerowref01_Compare]), wp_fin1]
  unfold refV
  by_cases hk : k = k'
  · subst hk
    by_cases hn : n = n'
    · subst hn
      simp [F_hedgerowref01_Compare, b_hedgerowref01_Compare]
      rw [wp_seqK, wp_blockK]
      refine refc_loop s s' hs (.int .i64 k) (.int .i64 k) (.int .i64 n) (.int .i64 n) 0 1 s.data.toList 0 (by simp) _ _ _ _ ?_ ?_ ?_ ?_ ?_
      · simp
      · simp
      · simp
      · intro l' v hd h4
        simp at hd
        simp [h4, refS, hd]
      · intro l' hd h2 h3
        simp at hd h2 h3
        by_cases h1 : (s.size : Int) < s'.size
        · simp [h2, h3, refS, hd, cmpI, h1]
        · by_cases h1' : (s'.size : Int) < s.size
          · simp [h2, h3, refS, hd, cmpI, h1, h1']
          · simp [h2, h3, refS, hd, cmpI, h1, h1']
    · by_cases h : n < n' <;> simp [F_hedgerowref01_Compare, b_hedgerowref01_Compare, hn, h]
  · by_cases h : k < k' <;> simp [F_hedgerowref01_Compare, b_hedgerowref01_Compare, hk, h]

theorem refV_ord (x y : Vl) : refV x.k x.n (mkB x.t) y.k y.n (mkB y.t) = ordV x y := by
  have hs : refS (mkB x.t) (mkB y.t) = lexL x.t y.t := by
    unfold refS
    have := lex_diff x.t y.t
    simp only [mkB_data, mkB_size]
    rw [← this]
  unfold refV ordV
  rw [hs]
  by_cases h1 : x.k = y.k
  · have e1 := (cmpI_zero x.k y.k).2 h1
    by_cases h2 : x.n = y.n
    · have e2 := (cmpI_zero x.n y.n).2 h2
      simp [h1, h2, orL, cmpI]
    · have e2 : cmpI x.n y.n ≠ 0 := fun h => h2 ((cmpI_zero _ _).1 h)
      by_cases h3 : x.n < y.n
      · simp [h1, h2, h3, orL, cmpI]
      · have h4 : y.n < x.n := by omega
        simp [h1, h2, h3, h4, orL, cmpI]
  · by_cases h3 : x.k < y.k
    · simp [h1, h3, orL, cmpI]
    · have h4 : y.k < x.k := by omega
      simp [h1, h3, h4, orL, cmpI]

theorem ref_Compare (x y : Vl) (hx : x.t.length ≤ 1048576) (H : GH) : ecall T f_hedgerowref01_Compare [.agg (vlC x), .agg (vlC y)] H = some (.int .i64 (ordV x y), H) := by
  rw [← refV_ord]
  exact ref_cmp _ _ _ _ _ _ (by rw [mkB_size]; omega) H
end Go.Proofs.YthmplnbogdfajaaGreatDoor

namespace Go.Proofs.YthmplnbogdfajaaGreatDoor
open Go.Sh
set_option maxHeartbeats 4000000
set_option maxRecDepth 100000

/-! ## Rows of values -/

deriving instance DecidableEq for Vl

def rowV (vs : List Vl) : List GV := vs.flatMap vlC
abbrev vlG (v : Vl) : GV := .agg (vlC v)
theorem rowV_cons (v : Vl) (vs : List Vl) : rowV (v :: vs) = vlC v ++ rowV vs := by simp [rowV]
theorem rowV_append (A B : List Vl) : rowV (A ++ B) = rowV A ++ rowV B := by simp [rowV]
theorem rowV_len : ∀ vs : List Vl, (rowV vs).length = vs.length * 3
  | [] => rfl
  | v :: vs => by
    rw [rowV_cons, List.length_append, rowV_len vs, List.length_cons]
    show 3 + _ = _; omega
theorem rowV_at {L : List Vl} {i : Nat} {e : Vl} (h : L[i]? = some e) : ((rowV L).drop (i * 3)).take 3 = vlC e := by
  induction L generalizing i with
  | nil => simp at h
  | cons y L ih =>
    rw [rowV_cons]
    cases i with
    | zero =>
      simp at h; subst h
      simp [vlC]
    | succ i =>
      simp only [List.getElem?_cons_succ] at h
      have : (vlC y ++ rowV L).drop ((i + 1) * 3) = (rowV L).drop (i * 3) := by
        rw [show (i + 1) * 3 = 3 + i * 3 by omega, ← List.drop_drop]
        simp [vlC]
      rw [this]; exact ih h
theorem rowV_set (A : List Vl) (y e : Vl) (B : List Vl) : (rowV (A ++ y :: B)).take (A.length * 3) ++ (vlC e ++ (rowV (A ++ y :: B)).drop (A.length * 3 + 3)) = rowV (A ++ e :: B) := by
  have hA := rowV_len A
  rw [rowV_append, rowV_append, rowV_cons, rowV_cons]
  have e1 : (rowV A ++ (vlC y ++ rowV B)).take (A.length * 3) = rowV A := by rw [← hA, List.take_left']; rfl
  have e2 : (rowV A ++ (vlC y ++ rowV B)).drop (A.length * 3 + 3) = rowV B := by
    rw [← hA, List.drop_append]
    simp [vlC]
  rw [e1, e2]
def setVl (H : GH) (id : Nat) (R : List Vl) : GH := { H with objs := H.objs.set id (.row 36 (rowV R)) }
theorem setVl_get {H : GH} {id : Nat} (h : id < H.objs.length) (R : List Vl) : (setVl H id R).objs[id]? = some (.row 36 (rowV R)) := by simp [setVl, h]
theorem setVl_same {H : GH} {id : Nat} {R : List Vl} (h : H.objs[id]? = some (.row 36 (rowV R))) : setVl H id R = H := by
  have hid := (List.getElem?_eq_some_iff.1 h).1
  have : H.objs.set id (.row 36 (rowV R)) = H.objs := by
    apply List.ext_getElem?
    intro k
    by_cases hk : id = k
    · subst hk; rw [List.getElem?_set_self hid, h]
    · rw [List.getElem?_set_ne hk]
  simp [setVl, this]

/-! ## slices.Compact -/

def cmpN (vs : List Vl) : Nat → List Vl
  | 0 => []
  | n + 1 => match vs[n]? with
    | some v => if n ≠ 0 ∧ vs[n - 1]? = some v then cmpN vs n else cmpN vs n ++ [v]
    | none => cmpN vs n

theorem cmpN_succ {vs : List Vl} {n : Nat} {v w : Vl} (h : vs[n + 1]? = some v) (h' : vs[n]? = some w) : cmpN vs (n + 2) = if v = w then cmpN vs (n + 1) else cmpN vs (n + 1) ++ [v] := by
  rw [cmpN, h]
  simp only [Nat.add_sub_cancel, h']
  by_cases e : v = w
  · rw [if_pos ⟨by omega, by rw [e]⟩, if_pos e]
  · rw [if_neg (fun h => e (by injection h.2 with h; exact h.symm)), if_neg e]
theorem cmpN_len (vs : List Vl) : ∀ n, (cmpN vs n).length ≤ n
  | 0 => Nat.le_refl _
  | n + 1 => by
    have := cmpN_len vs n
    rw [cmpN]
    split
    · split
      · omega
      · rw [List.length_append, List.length_singleton]; omega
    · omega

/-- Behind the first two that are the same. -/
theorem cmp_in (vs : List Vl) (hn : vs.length ≤ 1000000) (id k0 : Nat) (hk0 : 1 ≤ k0) (hk1 : k0 < vs.length) (hA0 : cmpN vs (k0 + 1) = vs.take k0) (l0 : List GV) (g0 : Nat) (H0 : GH) (hid : id < H0.objs.length) (hbo : H0.bo ≤ id) (K : GExit × St → Prop)
    (h0 : lget l0 0 = .hsl id 0 vs.length 3 false) (h4 : lget l0 4 = .hsl id (k0 * 3) (vs.length - k0) 3 false) (h3 : lget l0 3 = .int .i64 k0) (h5 : lget l0 5 = .int .i64 1)
    (he : ∀ l g, lget l 3 = .int .i64 (cmpN vs vs.length).length → (cmpN vs vs.length).length < vs.length → Fr L0_slices_Compactapi_Valueapi_Value l0 l → K (.exit 2, ⟨⟨l, g⟩, setVl H0 id (cmpN vs vs.length ++ vs.drop (cmpN vs vs.length).length)⟩)) :
    optW (erun T (.loop L0_slices_Compactapi_Valueapi_Value) ⟨⟨l0, g0⟩, setVl H0 id vs⟩) K := by
  refine while_loop (l0 := l0) (fun m l g H => ∃ j : Nat, m = vs.length - (k0 + j) ∧ 1 ≤ j ∧ k0 + j ≤ vs.length ∧ (cmpN vs (k0 + j)).length ≤ k0 + j - 1 ∧ H = setVl H0 id (cmpN vs (k0 + j) ++ vs.drop (cmpN vs (k0 + j)).length) ∧ lget l 3 = .int .i64 (cmpN vs (k0 + j)).length ∧ lget l 5 = .int .i64 j) ?_ (vs.length - (k0 + 1)) l0 g0 _ ⟨1, rfl, Nat.le_refl _, by omega, by rw [hA0, List.length_take]; omega, by rw [hA0, List.length_take, Nat.min_eq_left (by omega), List.take_append_drop], by rw [hA0, List.length_take, Nat.min_eq_left (by omega)]; exact h3, h5⟩ (.refl _ _ _)
  intro m l g H ⟨j, hm, hj1, hj, hA, hH, q3, q5⟩ hf
  subst hH
  have q0 := hf.get 0 rfl h0 (by simp [GV.boxy])
  have q4 := hf.get 4 rfl h4 (by simp [GV.boxy])
  by_cases hlt : k0 + j < vs.length
  · have hlt' : (j : Int) < ((vs.length - k0 : Nat) : Int) := by omega
    obtain ⟨w, hw⟩ : ∃ w, vs[k0 + j]? = some w := ⟨_, List.getElem?_eq_getElem hlt⟩
    obtain ⟨u, hu⟩ : ∃ u, vs[k0 + j - 1]? = some u := ⟨_, List.getElem?_eq_getElem (by omega)⟩
    have hst : cmpN vs (k0 + j + 1) = if w = u then cmpN vs (k0 + j) else cmpN vs (k0 + j) ++ [w] := by
      have := cmpN_succ (vs := vs) (n := k0 + j - 1) (v := w) (w := u) (by rw [show k0 + j - 1 + 1 = k0 + j by omega]; exact hw) hu
      rw [show k0 + j - 1 + 2 = k0 + j + 1 by omega, show k0 + j - 1 + 1 = k0 + j by omega] at this
      exact this
    generalize hAe : cmpN vs (k0 + j) = A at *
    obtain ⟨y, B, hyB⟩ : ∃ y B, vs.drop A.length = y :: B := by
      cases h : vs.drop A.length with
      | nil => have := congrArg List.length h; simp at this; omega
      | cons y B => exact ⟨y, B, rfl⟩
    have optw : (A ++ vs.drop A.length)[k0 + j]? = some w := by
      rw [List.getElem?_append_right (by omega), List.getElem?_drop, show A.length + (k0 + j - A.length) = k0 + j by omega]; exact hw
    have optu : (A ++ vs.drop A.length)[k0 + j - 1]? = some u := by
      rw [List.getElem?_append_right (by omega), List.getElem?_drop, show A.length + (k0 + j - 1 - A.length) = k0 + j - 1 by omega]; exact hu
    have atw := rowV_at optw
    have atu := rowV_at optu
    have hlen := rowV_len (A ++ vs.drop A.length)
    have hRl : (A ++ vs.drop A.length).length = vs.length := by rw [List.length_append, List.length_drop]; omega
    rw [show (k0 + j) * 3 = k0 * 3 + j * 3 by omega] at atw
    rw [show (k0 + j - 1) * 3 = k0 * 3 + (j - 1) * 3 by omega] at atu
    have hle1 : k0 * 3 + j * 3 + 3 ≤ (rowV (A ++ vs.drop A.length)).length := by omega
    have hle2 : k0 * 3 + (j - 1) * 3 + 3 ≤ (rowV (A ++ vs.drop A.length)).length := by omega
    have hle3 : A.length * 3 + 3 ≤ (rowV (A ++ vs.drop A.length)).length := by omega
    have hrow := setVl_get hid (A ++ vs.drop A.length)
    have ix1 : gIx (vs.length - k0) (.int .i64 (j : Int)) = some j := by simp only [gIx]; rw [if_pos (by omega)]; simp
    have ix2 : gIx (vs.length - k0) (.int .i64 ((j : Int) - 1)) = some (j - 1) := by simp only [gIx]; rw [if_pos (by omega)]; congr 1; omega
    have ix3 : gIx vs.length (.int .i64 (A.length : Int)) = some A.length := by simp only [gIx]; rw [if_pos (by omega)]; simp
    have w0 : IntKind.i64.wrap ((j : Int) - 1) = (j : Int) - 1 := wrap_i64' (by omega) (by omega)
    have w1 : IntKind.i64.wrap ((j : Int) + 1) = (j : Int) + 1 := wrap_i64' (by omega) (by omega)
    have w2 : IntKind.i64.wrap ((A.length : Int) + 1) = (A.length : Int) + 1 := wrap_i64' (by omega) (by omega)
    have hbo' : (setVl H0 id (A ++ vs.drop A.length)).bo ≤ id := hbo
    have lv := leaves_val w.k w.n w.t u.k u.n u.t
    have hwu : decide (w.k = u.k ∧ w.n = u.n ∧ w.t = u.t) = decide (w = u) := by
      congr 1; apply propext
      constructor
      · rintro ⟨a, b, c⟩; cases w; cases u; simp_all
      · rintro rfl; exact ⟨rfl, rfl, rfl⟩
    rw [hwu] at lv
    simp only [vlC] at atw atu
    by_cases hc : w = u
    · rw [decide_eq_true hc] at lv
      simp [L0_slices_Compactapi_Valueapi_Value, q0, q3, q4, q5, hlt', ix1, ix2, w0, w1, hrow, atw, atu, hle1, hle2, lv]
      refine ⟨vs.length - (k0 + (j + 1)), by omega, j + 1, rfl, by omega, by omega, ?_⟩
      rw [← Nat.add_assoc, hst, if_pos hc]
      exact ⟨by omega, rfl, by simp, by simp⟩
    · rw [decide_eq_false hc] at lv
      have hst2 : (⟨(setVl H0 id (A ++ vs.drop A.length)).objs.set id (.row 36 ((rowV (A ++ vs.drop A.length)).take (A.length * 3) ++ (.int .i64 w.k :: .int .i64 w.n :: .str (mkB w.t) :: (rowV (A ++ vs.drop A.length)).drop (A.length * 3 + 3)))), (setVl H0 id (A ++ vs.drop A.length)).toks, (setVl H0 id (A ++ vs.drop A.length)).bo, (setVl H0 id (A ++ vs.drop A.length)).bt⟩ : GH) = setVl H0 id (A ++ w :: B) := by
        have := rowV_set A y w B
        simp only [vlC, List.cons_append, List.nil_append] at this
        rw [hyB, this]
        simp [setVl]
      simp [L0_slices_Compactapi_Valueapi_Value, q0, q3, q4, q5, hlt', ix1, ix2, ix3, w0, w1, w2, hrow, atw, atu, hle1, hle2, hle3, lv, setPart, hbo', hst2]
      have hB : B = vs.drop (A.length + 1) := by
        have := congrArg (List.drop 1) hyB
        simpa [List.drop_drop] using this.symm
      refine ⟨vs.length - (k0 + (j + 1)), by omega, j + 1, rfl, by omega, by omega, ?_⟩
      rw [← Nat.add_assoc, hst, if_neg hc]
      exact ⟨by rw [List.length_append, List.length_singleton]; omega, by rw [hB]; simp, by simp, by simp⟩
  · have hlt' : ¬ (j : Int) < ((vs.length - k0 : Nat) : Int) := by omega
    have hje : k0 + j = vs.length := by omega
    rw [hje] at hA q3
    simp [L0_slices_Compactapi_Valueapi_Value, q4, q5, hlt']
    rw [hje]
    exact fun hf' => he _ _ (by simp [q3]) (by omega) hf'

theorem sl_tail {k n : Nat} (hk : k < n) (id : Nat) (call : Nat → List GV → GH → Option (GV × GH)) (l : List GV) (g : Nat) (H' : GH) : geff call (.slsl 3 true false false) [.hsl id 0 n 3 false, .int .i64 (k : Int)] ⟨l, g⟩ H' = some ⟨.hsl id (k * 3) (n - k) 3 false, none, H', g⟩ := by
  have b1 : gBounds n true false false [.int .i64 (k : Int)] = some (k, n, none) := by simp [gBounds, gBound]; omega
  show (Option.map _ (if (3 : Nat) = 3 then (gBounds n true false false [.int .i64 (k : Int)]).map _ else none)) = _
  rw [b1]
  simp [hk]
theorem sl_head {k n : Nat} (hk : k ≤ n) (h0 : 0 < k) (id : Nat) (call : Nat → List GV → GH → Option (GV × GH)) (l : List GV) (g : Nat) (H' : GH) : geff call (.slsl 3 false true false) [.hsl id 0 n 3 false, .int .i64 (k : Int)] ⟨l, g⟩ H' = some ⟨.hsl id 0 k 3 false, none, H', g⟩ := by
  have b2 : gBounds n false true false [.int .i64 (k : Int)] = some (0, k, none) := by simp [gBounds, gBound]; omega
  show (Option.map _ (if (3 : Nat) = 3 then (gBounds n false true false [.int .i64 (k : Int)]).map _ else none)) = _
  rw [b2]
  simp [h0]

theorem cmpN_pos {vs : List Vl} (h : vs ≠ []) : ∀ n, 0 < (cmpN vs (n + 1)).length
  | 0 => by
    cases vs with
    | nil => exact absurd rfl h
    | cons v vs => simp [cmpN]
  | n + 1 => by
    have := cmpN_pos h n
    rw [cmpN]
    split
    · split
      · exact this
      · rw [List.length_append]; omega
    · exact this

theorem cmp_out (vs : List Vl) (hn : vs.length ≤ 1000000) (h1 : 1 ≤ vs.length) (id : Nat) (l0 : List GV) (g0 : Nat) (H0 : GH) (hid : id < H0.objs.length) (hbo : H0.bo ≤ id) (K : GExit × St → Prop)
    (h0 : lget l0 0 = .hsl id 0 vs.length 3 false) (h3 : lget l0 3 = .int .i64 1)
    (he : ∀ l g, cmpN vs vs.length = vs → lget l 0 = .hsl id 0 vs.length 3 false → K (.exit 0, ⟨⟨l, g⟩, setVl H0 id vs⟩))
    (hr : ∀ l g Z, lget l 2 = .hsl id 0 (cmpN vs vs.length).length 3 false → K (.ret, ⟨⟨l, g⟩, setVl H0 id (cmpN vs vs.length ++ Z)⟩)) :
    optW (erun T (.loop L1_slices_Compactapi_Valueapi_Value) ⟨⟨l0, g0⟩, setVl H0 id vs⟩) K := by
  have hvne : vs ≠ [] := fun e => by rw [e] at h1; simp at h1
  refine while_loop (l0 := l0) (fun m l g H => ∃ k : Nat, m = vs.length - k ∧ 1 ≤ k ∧ k ≤ vs.length ∧ cmpN vs k = vs.take k ∧ H = setVl H0 id vs ∧ lget l 3 = .int .i64 k) ?_ (vs.length - 1) l0 g0 _ ⟨1, rfl, Nat.le_refl _, h1, by cases vs with | nil => exact absurd rfl hvne | cons v vs => simp [cmpN], rfl, h3⟩ (.refl _ _ _)
  intro m l g H ⟨k, hm, hk1, hk, hA, hH, q3⟩ hf
  subst hH
  have q0 := hf.get 0 rfl h0 (by simp [GV.boxy])
  by_cases hlt : k < vs.length
  · have hlt' : (k : Int) < (vs.length : Int) := by omega
    obtain ⟨w, hw⟩ : ∃ w, vs[k]? = some w := ⟨_, List.getElem?_eq_getElem hlt⟩
    obtain ⟨u, hu⟩ : ∃ u, vs[k - 1]? = some u := ⟨_, List.getElem?_eq_getElem (by omega)⟩
    have hst : cmpN vs (k + 1) = if w = u then cmpN vs k else cmpN vs k ++ [w] := by
      have := cmpN_succ (vs := vs) (n := k - 1) (v := w) (w := u) (by rw [show k - 1 + 1 = k by omega]; exact hw) hu
      rw [show k - 1 + 2 = k + 1 by omega, show k - 1 + 1 = k by omega] at this
      exact this
    have atw := rowV_at hw
    have atu := rowV_at hu
    have hlen := rowV_len vs
    have hle1 : k * 3 + 3 ≤ (rowV vs).length := by omega
    have hle2 : (k - 1) * 3 + 3 ≤ (rowV vs).length := by omega
    have hrow := setVl_get hid vs
    have ix1 : gIx vs.length (.int .i64 (k : Int)) = some k := by simp only [gIx]; rw [if_pos (by omega)]; simp
    have ix2 : gIx vs.length (.int .i64 ((k : Int) - 1)) = some (k - 1) := by simp only [gIx]; rw [if_pos (by omega)]; congr 1; omega
    have w0 : IntKind.i64.wrap ((k : Int) - 1) = (k : Int) - 1 := wrap_i64' (by omega) (by omega)
    have w1 : IntKind.i64.wrap ((k : Int) + 1) = (k : Int) + 1 := wrap_i64' (by omega) (by omega)
    have lv := leaves_val w.k w.n w.t u.k u.n u.t
    have hwu : decide (w.k = u.k ∧ w.n = u.n ∧ w.t = u.t) = decide (w = u) := by
      congr 1; apply propext
      constructor
      · rintro ⟨a, b, c⟩; cases w; cases u; simp_all
      · rintro rfl; exact ⟨rfl, rfl, rfl⟩
    rw [hwu] at lv
    simp only [vlC] at atw atu
    by_cases hc : w = u
    · rw [decide_eq_true hc] at lv
      rw [if_pos hc, hA] at hst
      have s1 := fun l g H' => sl_tail hlt id (ecall T) l g H'
      simp [L1_slices_Compactapi_Valueapi_Value, q0, q3, hlt', ix1, ix2, w0, hrow, atw, atu, hle1, hle2, lv, s1]
      rw [wp_seqK, wp_blockK, wp_seqK, wp_blockK]
      refine cmp_in vs hn id k hk1 hlt hst _ _ H0 hid hbo _ (by simp [q0]) (by simp) (by simp [q3]) (by simp) ?_
      intro l2 g2 k3 hcl hf2
      have k0 := hf2.get 0 rfl (v := .hsl id 0 vs.length 3 false) (by simp [q0]) (by simp [GV.boxy])
      have hpos : 0 < (cmpN vs vs.length).length := by
        obtain ⟨n, hn⟩ : ∃ n, vs.length = n + 1 := ⟨vs.length - 1, by omega⟩
        rw [hn]; exact cmpN_pos hvne n
      generalize cmpN vs vs.length = A at *
      have s2 := fun l g H' => sl_tail hcl id (ecall T) l g H'
      have s3 := fun l g H' => sl_head (Nat.le_of_lt hcl) hpos id (ecall T) l g H'
      have hrow' := setVl_get hid (A ++ vs.drop A.length)
      have hlen' := rowV_len (A ++ vs.drop A.length)
      have hRl : (A ++ vs.drop A.length).length = vs.length := by rw [List.length_append, List.length_drop]; omega
      have hrest : vs.length - A.length > 0 := by omega
      obtain ⟨Z, hZ⟩ : ∃ Z : List Vl, Z = List.replicate (vs.length - A.length) ⟨0, 0, []⟩ := ⟨_, rfl⟩
      have hcz : gClear (setVl H0 id (A ++ vs.drop A.length)) 3 (.agg [.int .i64 0, .int .i64 0, .str ⟨#[]⟩]) [.hsl id (A.length * 3) (vs.length - A.length) 3 false] = some (.tup [], setVl H0 id (A ++ Z)) := by
        simp only [gClear, hrow']
        rw [if_pos (by refine ⟨trivial, hbo, hrest, ?_, rfl, rfl⟩; rw [hlen', hRl]; omega)]
        have e1 : (rowV (A ++ vs.drop A.length)).take (A.length * 3) = rowV A := by
          rw [rowV_append, ← rowV_len A, List.take_left']; rfl
        have e2 : (rowV (A ++ vs.drop A.length)).drop (A.length * 3 + (vs.length - A.length) * 3) = [] := List.drop_eq_nil_iff.2 (by rw [hlen', hRl]; omega)
        have e3 : (List.replicate (vs.length - A.length) (GV.agg [.int .i64 0, .int .i64 0, .str ⟨#[]⟩])).flatMap GV.cells = rowV Z := by
          rw [hZ, rowV]
          generalize vs.length - A.length = n
          induction n with
          | zero => rfl
          | succ n ih => rw [List.replicate_succ, List.replicate_succ, List.flatMap_cons, List.flatMap_cons, ih]; rfl
        rw [e1, e2, e3, List.append_nil, ← rowV_append]
        simp [setVl]
      simp [k0, k3, s2, s3, hcz]
      exact fun _ => hr _ _ Z (by simp)
    · rw [decide_eq_false hc] at lv
      rw [if_neg hc, hA] at hst
      simp [L1_slices_Compactapi_Valueapi_Value, q0, q3, hlt', ix1, ix2, w0, w1, hrow, atw, atu, hle1, hle2, lv]
      refine ⟨vs.length - (k + 1), by omega, k + 1, rfl, by omega, by omega, ?_, by simp⟩
      rw [hst, List.take_add_one, hw]; rfl
  · have hlt' : ¬ (k : Int) < (vs.length : Int) := by omega
    have hke : k = vs.length := by omega
    rw [hke, List.take_length] at hA
    simp [L1_slices_Compactapi_Valueapi_Value, q0, q3, hlt']
    exact fun hf' => he _ _ hA (by simp [q0])

theorem compact_ok (vs : List Vl) (hn : vs.length ≤ 1000000) (h1 : 1 ≤ vs.length) (id : Nat) (H : GH) (hrow : H.objs[id]? = some (.row 36 (rowV vs))) (hbo : H.bo ≤ id) :
    ∃ Z, ecall T f_slices_Compactapi_Valueapi_Value [.hsl id 0 vs.length 3 false] H = some (.hsl id 0 (cmpN vs vs.length).length 3 false, setVl H id (cmpN vs vs.length ++ Z)) := by
  have hid := (List.getElem?_eq_some_iff.1 hrow).1
  have hsame := setVl_same hrow
  have hvne : vs ≠ [] := fun e => by rw [e] at h1; simp at h1
  have key : optW (ecall T f_slices_Compactapi_Valueapi_Value [.hsl id 0 vs.length 3 false] H) fun r => ∃ Z, r = (.hsl id 0 (cmpN vs vs.length).length 3 false, setVl H id (cmpN vs vs.length ++ Z)) := by
    rw [ecall_0 T_slices_Compactapi_Valueapi_Value rfl (by simp [F_slices_Compactapi_Valueapi_Value]), wp_fin1]
    simp only [F_slices_Compactapi_Valueapi_Value, b_slices_Compactapi_Valueapi_Value]
    by_cases h2 : (vs.length : Int) < 2
    · have h2' : vs.length < 2 := by omega
      have h3 : vs.length = 1 := by omega
      have hc : cmpN vs vs.length = vs := by
        cases vs with
        | nil => exact absurd rfl hvne
        | cons v vs =>
          have : vs = [] := List.length_eq_zero_iff.1 (by simpa using h3)
          subst this; rfl
      simp [h2, h2']
      exact ⟨by rw [hc], ⟨[], by rw [hc, List.append_nil, hsame]⟩⟩
    · have h2' : ¬ vs.length < 2 := by omega
      simp [h2, h2']
      rw [wp_seqK, wp_blockK]
      have hlo : ∀ (l0 : List GV) (g0 : Nat) (K : GExit × St → Prop), optW (erun T (.loop L1_slices_Compactapi_Valueapi_Value) ⟨⟨l0, g0⟩, setVl H id vs⟩) K → optW (erun T (.loop L1_slices_Compactapi_Valueapi_Value) ⟨⟨l0, g0⟩, H⟩) K := fun l0 g0 K h => by rwa [hsame] at h
      refine hlo _ _ _ (cmp_out vs hn h1 id _ _ H hid hbo _ (by simp) (by simp) ?_ ?_)
      · intro l g hc k0
        rw [hc]
        simp [k0]
        exact ⟨[], by rw [List.append_nil]⟩
      · intro l g Z k2
        simp [k2]
        exact ⟨Z, rfl⟩
  obtain ⟨r, h, Z, rfl⟩ := key
  exact ⟨Z, h⟩
end Go.Proofs.YthmplnbogdfajaaGreatDoor

namespace Go.Proofs.YthmplnbogdfajaaGreatDoor
open Go.Sh
set_option maxHeartbeats 4000000
set_option maxRecDepth 100000

/-! ## (*Store).Values -/

/-- A heap that has grown. -/
structure Grow (H H' : GH) : Prop where
  bo : H'.bo = H.bo
  bt : H'.bt = H.bt
  toks : H'.toks = H.toks
  len : H.objs.length ≤ H'.objs.length
  keep : ∀ (i : Nat) (o : GObj), i < H.objs.length → H.objs[i]? = some o → H'.objs[i]? = some o

/-- A row of values that grows. -/
inductive VRow (H0 H : GH) : GV → List Vl → Prop
  | nil (h : Grow H0 H) : VRow H0 H .nilsl []
  | row (id : Nat) (vs : List Vl) (h : Grow H0 H) (hne : vs ≠ []) (hid : H0.objs.length ≤ id) (hr : H.objs[id]? = some (.row 36 (rowV vs))) : VRow H0 H (.hsl id 0 vs.length 3 false) vs

theorem VRow.ok {H0 H : GH} {s : GV} {vs : List Vl} (h : VRow H0 H s vs) : s.ok = true ∧ (∀ t, unbox t s = s) ∧ s.boxy = false := by
  cases h <;> exact ⟨rfl, fun _ => rfl, rfl⟩
theorem VRow.grow {H0 H : GH} {s : GV} {vs : List Vl} (h : VRow H0 H s vs) : Grow H0 H := by cases h <;> assumption

theorem vrow_step {H0 H : GH} {s : GV} {vs : List Vl} (h : VRow H0 H s vs) (hbo : H0.bo ≤ H0.objs.length) (hl : vs.length ≤ 1000) (v : Vl) :
    ∃ s' H', gAppendN H 36 3 32 s (.sl 3 [vlG v] .exact) = some (s', H') ∧ VRow H0 H' s' (vs ++ [v]) := by
  have hg : gNews 3 (.sl 3 [vlG v] .exact) = some [vlG v] := by simp [gNews]
  cases h with
  | nil h =>
    refine ⟨.hsl H.objs.length 0 1 3 false, H.newObj (.row 36 (vlC v)), ?_, ?_⟩
    · unfold gAppendN
      rw [hg]
      simp [room, maxLen]
    · have := VRow.row (H0 := H0) (H := H.newObj (.row 36 (vlC v))) H.objs.length [v] ⟨h.bo, h.bt, h.toks, by show _ ≤ (H.objs ++ _).length; rw [List.length_append]; have := h.len; omega, fun i o hi ho => by
        show (H.objs ++ _)[i]? = some o
        rw [List.getElem?_append_left (by have := h.len; omega)]; exact h.keep i o hi ho⟩ (by simp) h.len (by show (H.objs ++ _)[H.objs.length]? = _; simp [rowV, vlC])
      exact this
  | row id _ h hne hid hr =>
    have hlen := rowV_len vs
    have hb : H.bo ≤ id := by rw [h.bo]; omega
    have hidl := (List.getElem?_eq_some_iff.1 hr).1
    have ga := gAppend_row (ty := 36) (sz := 3) (bytes := 32) (ag := false) (x := .sl 3 [vlG v] .exact) hr hg hlen hb (by simp only [List.length_singleton, room]; omega) (by simp only [List.length_singleton, maxLen]; omega) (by simp)
    have e1 : rowV vs ++ [vlG v].flatMap GV.cells = rowV (vs ++ [v]) := by
      rw [rowV_append]; simp [rowV, vlG]
    have e2 : vs.length + [vlG v].length = (vs ++ [v]).length := by simp
    rw [e1, e2] at ga
    have ga' : gAppendN H 36 3 32 (.hsl id 0 vs.length 3 false) (.sl 3 [vlG v] .exact) = some (.hsl H.objs.length 0 (vs ++ [v]).length 3 false, { H with objs := H.objs.set id .dead ++ [.row 36 (rowV (vs ++ [v]))] }) := by
      unfold gAppendN
      rw [hg]
      simp only [Option.bind_some]
      exact ga
    refine ⟨_, _, ga', VRow.row _ _ ⟨h.bo, h.bt, h.toks, ?_, fun i o hi ho => ?_⟩ (by simp) ?_ ?_⟩
    · show _ ≤ (H.objs.set id .dead ++ _).length
      rw [List.length_append, List.length_set]; have := h.len; omega
    · show (H.objs.set id .dead ++ _)[i]? = some o
      have := h.len
      rw [List.getElem?_append_left (by rw [List.length_set]; omega), List.getElem?_set_ne (by omega)]
      exact h.keep i o hi ho
    · exact h.len
    · show (H.objs.set id .dead ++ _)[H.objs.length]? = _
      rw [List.getElem?_append_right (by rw [List.length_set]; exact Nat.le_refl _), List.length_set, Nat.sub_self]; rfl

def valOf (e : Ent) : Vl := ⟨e.k, e.n, e.t⟩

theorem values_loop (L : List Ent) (hL : L.length ≤ 1000) (v1 : GV) (hv : Elems 5 v1 (L.map entG)) (l0 : List GV) (g0 : Nat) (H0 : GH) (hbo : H0.bo ≤ H0.objs.length) (K : GExit × St → Prop)
    (h10 : lget l0 10 = v1) (h11 : lget l0 11 = .int .i64 L.length) (h12 : lget l0 12 = .int .i64 0) (h5 : lget l0 5 = .nilsl)
    (he : ∀ l g H s, lget l 5 = s → VRow H0 H s (L.map valOf) → Fr L0_store_Store_Values l0 l → K (.exit 0, ⟨⟨l, g⟩, H⟩)) :
    optW (erun T (.loop L0_store_Store_Values) ⟨⟨l0, g0⟩, H0⟩) K := by
  refine range_loop (T := T) (n := L.length) (A := GV) (fun _ s => [(5, s)]) (fun i s _ H' => VRow H0 H' s ((L.take i).map valOf)) (c := 13) (b := 0) (I := 12) (N := 11) (d := 21) rfl (by omega) (by decide) ⟨rfl, rfl⟩ (by simp) ?_ ?_ 0 .nilsl _ _ H0 (by omega) (.nil ⟨rfl, rfl, rfl, Nat.le_refl _, fun _ _ _ h => h⟩) (by simp [h5]) (.refl _ _ _) h12 h11
  · intro i s l g H' hi hG hh hf hI
    have h10' := hf.get 10 rfl h10 (by simp [hv.boxy])
    obtain ⟨lt, ix, opt, get, ⟨t, sv⟩, wr_, mem⟩ := at_ok (e := entG) hv hi (by omega)
    generalize L[i]'hi = e at opt get mem
    have ht : (L.take (i + 1)).map valOf = (L.take i).map valOf ++ [valOf e] := by rw [List.take_add_one, opt]; simp
    rw [ht]
    obtain ⟨s', H2, a1, G1⟩ := vrow_step hG hbo (by rw [List.length_map, List.length_take]; omega) (valOf e)
    obtain ⟨o1, o2, o3⟩ := hG.ok
    obtain ⟨p1, p2, p3⟩ := G1.ok
    simp only [Holds_cons, Holds_nil, and_true] at hh
    rw [sv] at h10'
    simp only [vlG, vlC, valOf] at a1
    simp [h10', hI, hh, ix, opt, get, entC, setPart, gSetAll, gFill, o1, o2, a1, p1, geff_appendN]
    exact fun _ => by simpa using G1
  · intro s l g H' hG hh hf
    simp only [Holds_cons, Holds_nil, and_true] at hh
    rw [List.take_length] at hG
    exact he l g H' s hh hG hf

theorem sort_vals {H : GH} {q : Nat} {vs : List Vl} (hne : vs ≠ []) (hle : vs.length ≤ 1000000) (hq : H.objs[q]? = some (.row 36 (rowV vs))) (hbq : H.bo ≤ q) :
    ecall T f_slices_SortFuncapi_Valueapi_Value [.hsl q 0 vs.length 3 false, .func 48 [] []] H = some (.tup [], setVl H q (isort (ltC ordV) vs)) := by
  refine lib30 T_slices_SortFuncapi_Valueapi_Value (by simp) ?_ ⟨rfl, rfl⟩
  have hpos : 0 < vs.length := List.length_pos_iff.2 hne
  have hone : (rowV vs).all GV.one = true := by
    rw [List.all_eq_true]
    intro c hc
    obtain ⟨p, _, hp⟩ := List.mem_flatMap.1 hc
    simp only [vlC, List.mem_cons, List.not_mem_nil, or_false] at hp
    rcases hp with rfl | rfl | rfl <;> rfl
  have hrow : rowK 3 vs.length (rowV vs) = vs.map fun p => vlC p := rowK_flat (en := vlC) (fun _ => rfl) vs
  have hdec : decs deV (rowK 3 vs.length (rowV vs)) = some vs := by
    rw [hrow]
    exact decs_map (de := deV) (en := vlC) vs (fun b _ => by
      show (some ⟨b.k, b.n, (mkB b.t).data.toList⟩ : Option Vl) = some b
      simp)
  simp only [sortVFn, sortFn, hq]
  rw [if_pos ⟨trivial, trivial, hbq, hpos, by decide, hle, rowV_len vs, hone⟩, hdec]
  simp [setVl, rowV]

/-- What the values of an element are: rising, each once. -/
inductive ValsV (H : GH) (L : List Ent) : GV → List Vl → Prop
  | nil (h : L = []) : ValsV H L .nilsl []
  | row (id : Nat) (Z : List Vl) (hne : L ≠ []) (hr : H.objs[id]? = some (.row 36 (rowV (cmpN (isort (ltC ordV) (L.map valOf)) L.length ++ Z)))) : ValsV H L (.hsl id 0 (cmpN (isort (ltC ordV) (L.map valOf)) L.length).length 3 false) (cmpN (isort (ltC ordV) (L.map valOf)) L.length)

theorem values_ok {H : GH} {s m : Nat} {S : List Stp} (h : Sto H s m S) (x : El) (hk : keyOk true kLs (elG x) = true) (hL : (getS S x).length ≤ 1000) (hbo : H.bo ≤ H.objs.length) :
    ∃ v H', ecall T f_store_Store_Values [.ptr s 0, .agg (elC x)] H = some (v, H') ∧ (∃ A, ValsV H' (getS S x) v A) ∧ v.ok = true ∧ (∀ t, unbox t v = v) ∧ H'.bt = H.bt ∧ H'.toks = H.toks := by
  obtain ⟨v1, hen, hE⟩ := entries_ok h x hk (by omega) hbo
  have gm := killH_more (getS S x) H
  generalize getS S x = L at hL hen hE gm
  generalize hH1 : killH L H = H1 at hen gm
  have hbo1 : H1.bo ≤ H1.objs.length := by rw [gm.bo]; exact Nat.le_trans hbo gm.len
  have el := hE.len
  have eu := elemsUnbox hE
  have ek := hE.ok
  simp only [List.length_map] at el
  have gs := gm.step (m := 0)
  have hlx : (elC x).length = 5 := rfl
  have htx : List.take 5 (elC x) = elC x := rfl
  have key : optW (ecall T f_store_Store_Values [.ptr s 0, .agg (elC x)] H) fun r => ∃ v H', r = (v, H') ∧ (∃ A, ValsV H' L v A) ∧ v.ok = true ∧ (∀ t, unbox t v = v) ∧ H'.bt = H.bt ∧ H'.toks = H.toks := by
    rw [ecall_0 T_store_Store_Values rfl (by simp [F_store_Store_Values]), wp_fin1]
    simp only [F_store_Store_Values, b_store_Store_Values]
    simp [hlx, htx, hen, el, eu, ek]
    rw [wp_seqK, wp_blockK]
    refine values_loop L hL v1 hE _ _ H1 hbo1 _ (by simp [eu]) (by simp) (by simp) (by simp) ?_
    intro l g H2 s2 k5 hV hf
    cases hs : L with
    | nil =>
      rw [hs] at hV
      cases hV with
      | nil hG =>
        have hsrt : ecall T f_slices_SortFuncapi_Valueapi_Value [.nilsl, .func 48 [] []] H2 = some (.tup [], H2) := lib30 T_slices_SortFuncapi_Valueapi_Value (by simp) rfl ⟨rfl, rfl⟩
        have hcmp : ecall T f_slices_Compactapi_Valueapi_Value [.nilsl] H2 = some (.nilsl, H2) := by
          apply optW.eq
          rw [ecall_0 T_slices_Compactapi_Valueapi_Value rfl (by simp [F_slices_Compactapi_Valueapi_Value]), wp_fin1]
          simp [F_slices_Compactapi_Valueapi_Value, b_slices_Compactapi_Valueapi_Value]
        simp [k5, hsrt, hcmp]
        exact ⟨.nilsl, H2, ⟨rfl, rfl⟩, ⟨[], .nil rfl⟩, rfl, fun _ => rfl, hG.bt.trans gs.bt, hG.toks.trans gs.toks⟩
      | row _ _ _ hne => exact absurd rfl hne
    | cons e0 L0 =>
      have hLne : L ≠ [] := by rw [hs]; simp
      have hvs : L.map valOf ≠ [] := by rw [hs]; simp
      have hvl : (L.map valOf).length = L.length := by simp
      rw [← hs]
      have hLp : 0 < L.length := List.length_pos_iff.2 hLne
      generalize hvd : L.map valOf = vs at hV hvs hvl
      cases hV with
      | nil => exact absurd rfl hvs
      | row id _ hG hne hid hr =>
        have hb2 : H2.bo ≤ id := by rw [hG.bo]; omega
        have hsrt := sort_vals hvs (by omega) hr hb2
        have hsl : (isort (ltC ordV) vs).length = vs.length := (isort_perm vs).length_eq
        have hidl := (List.getElem?_eq_some_iff.1 hr).1
        obtain ⟨Z, hcmp⟩ := compact_ok (isort (ltC ordV) vs) (by omega) (by omega) id (setVl H2 id (isort (ltC ordV) vs)) (setVl_get hidl _) hb2
        rw [hsl] at hcmp
        simp [k5, hsrt, hcmp]
        refine ⟨_, _, ⟨rfl, rfl⟩, ⟨cmpN (isort (ltC ordV) vs) vs.length, ?_⟩, rfl, fun _ => rfl, hG.bt.trans gs.bt, hG.toks.trans gs.toks⟩
        have := ValsV.row (H := setVl (setVl H2 id (isort (ltC ordV) vs)) id (cmpN (isort (ltC ordV) vs) vs.length ++ Z)) (L := L) id Z hLne
        rw [hvd, ← hvl] at this
        exact this (setVl_get (by show id < (H2.objs.set id _).length; rw [List.length_set]; exact hidl) _)
  obtain ⟨r, h, v, H', rfl, h2⟩ := key
  exact ⟨v, H', h, h2⟩
end Go.Proofs.YthmplnbogdfajaaGreatDoor

namespace Go.Proofs.YthmplnbogdfajaaGreatDoor
open Go.Sh
set_option maxHeartbeats 4000000
set_option maxRecDepth 100000

/-! ## Values that rise, each once -/

theorem cmpN_rise {vs : List Vl} (hs : vs.Pairwise fun a b => ltC ordV b a = false) : ∀ n ≤ vs.length, (cmpN vs n).Pairwise (fun a b => ordV a b < 0) ∧ ∀ x, x ∈ cmpN vs n ↔ x ∈ vs.take n
  | 0, _ => ⟨List.Pairwise.nil, fun x => by simp [cmpN]⟩
  | n + 1, hn => by
    obtain ⟨h1, h2⟩ := cmpN_rise hs n (by omega)
    have hv : vs[n]? = some vs[n] := List.getElem?_eq_getElem (by omega)
    have le : ∀ i j (hi : i < vs.length) (hj : j < vs.length), i ≤ j → ordV vs[i] vs[j] ≤ 0 := fun i j hi hj hij => by
      rcases Nat.lt_or_ge i j with h | h
      · have := (List.pairwise_iff_getElem.1 hs) i j hi hj h
        have h3 : ¬ ordV vs[j] vs[i] < 0 := of_decide_eq_false this
        have := ordV_ok.swap vs[i] vs[j]
        omega
      · have : i = j := by omega
        subst this
        have := ordV_ok.self vs[i]
        omega
    have ht : vs.take (n + 1) = vs.take n ++ [vs[n]] := by rw [List.take_add_one, hv]; rfl
    rw [cmpN, hv]
    simp only
    split
    · rename_i hc
      obtain ⟨hn0, hp⟩ := hc
      refine ⟨h1, fun x => ?_⟩
      rw [h2, ht, List.mem_append, List.mem_singleton]
      constructor
      · exact fun h => .inl h
      · rintro (h | h)
        · exact h
        · rw [h]
          have h4 : (vs.take n)[n - 1]? = some vs[n] := by rw [List.getElem?_take_of_lt (by omega)]; exact hp
          exact List.mem_of_getElem? h4
    · rename_i hc
      refine ⟨?_, fun x => ?_⟩
      · rw [List.pairwise_append]
        refine ⟨h1, List.pairwise_singleton _ _, fun x hx y hy => ?_⟩
        rw [List.mem_singleton] at hy
        rw [hy]
        obtain ⟨j, hj, hje⟩ := List.mem_iff_getElem.1 ((h2 x).1 hx)
        rw [List.length_take] at hj
        have hjl : j < vs.length := by omega
        have hxe : x = vs[j] := by rw [← hje]; simp
        have h3 := le j n hjl (by omega) (by omega)
        rw [hxe]
        rcases Int.lt_or_eq_of_le h3 with h4 | h4
        · exact h4
        · exfalso
          have e1 := ordV_ok.zero _ _ h4
          have h5 := le j (n - 1) hjl (by omega) (by omega)
          have h6 := le (n - 1) n (by omega) (by omega) (by omega)
          rw [e1] at h5
          have h7 := ordV_ok.swap vs[n - 1] vs[n]
          have e2 := ordV_ok.zero vs[n - 1] vs[n] (by omega)
          exact hc ⟨by omega, by rw [List.getElem?_eq_getElem (by omega), e2]⟩
      · rw [List.mem_append, h2, ht, List.mem_append]

/-- A slice of values that can be read. -/
def VS (H : GH) (v : GV) (A : List Vl) : Prop := (v = .nilsl ∧ A = []) ∨ ∃ id Z, v = .hsl id 0 A.length 3 false ∧ H.objs[id]? = some (.row 36 (rowV (A ++ Z)))

theorem VS.keep {H H' : GH} {v : GV} {A : List Vl} (h : VS H v A) (ho : H'.objs = H.objs) : VS H' v A := by
  rcases h with h | ⟨id, Z, h1, h2⟩
  · exact .inl h
  · exact .inr ⟨id, Z, h1, by rw [ho]; exact h2⟩
theorem VS.len {H : GH} {v : GV} {A : List Vl} (h : VS H v A) (call : Nat → List GV → GH → Option (GV × GH)) (l : List GV) (g : Nat) (H' : GH) : geff call .lensl [v] ⟨l, g⟩ H' = some ⟨.int .i64 A.length, none, H', g⟩ := by
  rcases h with ⟨rfl, rfl⟩ | ⟨id, Z, rfl, _⟩ <;> rfl
theorem VS.at_ {H : GH} {v : GV} {A : List Vl} (h : VS H v A) {i : Nat} (hi : i < A.length) : ∃ id cs, v = .hsl id 0 A.length 3 false ∧ H.objs[id]? = some (.row 36 cs) ∧ i * 3 + 3 ≤ cs.length ∧ (cs.drop (i * 3)).take 3 = vlC A[i] := by
  rcases h with ⟨rfl, rfl⟩ | ⟨id, Z, rfl, h⟩
  · simp at hi
  · refine ⟨id, _, rfl, h, ?_, ?_⟩
    · rw [rowV_len, List.length_append]; omega
    · apply rowV_at
      rw [List.getElem?_append_left hi, List.getElem?_eq_getElem hi]

theorem vals_of {H : GH} {L : List Ent} {v : GV} {A : List Vl} (h : ValsV H L v A) : VS H v A ∧ A.length ≤ L.length ∧ A.Pairwise (fun a b => ordV a b < 0) ∧ ∀ x, x ∈ A ↔ x ∈ L.map valOf := by
  cases h with
  | nil h => subst h; exact ⟨.inl ⟨rfl, rfl⟩, Nat.le_refl _, List.Pairwise.nil, fun x => by simp⟩
  | row id Z hne hr =>
    have hl : (isort (ltC ordV) (L.map valOf)).length = L.length := by rw [(isort_perm _).length_eq, List.length_map]
    obtain ⟨h1, h2⟩ := cmpN_rise (isort_sorted (lt := ltC ordV) (ordV_ok.swo fun p : Vl => p) (L.map valOf)) L.length (by omega)
    refine ⟨.inr ⟨id, Z, rfl, hr⟩, cmpN_len _ _, h1, fun x => ?_⟩
    rw [h2, List.take_of_length_le (by omega)]
    exact (isort_perm _).mem_iff

def valE (a : Evt) : Vl := ⟨a.vk, a.vn, a.vt⟩
theorem val_cells {e : Evt} (hp : e.past.length = 16) : List.take 3 (List.drop 24 (evC e)) = vlC (valE e) := ev_val hp
theorem leaves_vl (x y : Vl) : leavesEq [.int .i64, .int .i64, .str] (vlC x) (vlC y) = some (decide (x = y)) := by
  have : decide (x.k = y.k ∧ x.n = y.n ∧ x.t = y.t) = decide (x = y) := by
    congr 1; apply propext
    constructor
    · rintro ⟨a, b, c⟩; cases x; cases y; simp_all
    · rintro rfl; exact ⟨rfl, rfl, rfl⟩
  rw [← this]
  exact leaves_val _ _ _ _ _ _

/-- Is a value one of events'? -/
theorem vals_in {F : List Evt} (hF : F.length ≤ 1000) (hof : ∀ y ∈ F, EvFit y) (vl : GV) (hvl : Elems 27 vl (F.map evG)) (v : Vl) (b3 : GV) (g12 : Nat) (l0 : List GV) (g0 : Nat) (H0 : GH) (K : GExit × St → Prop)
    (h66 : lget l0 66 = vl) (h67 : lget l0 67 = .int .i64 F.length) (h68 : lget l0 68 = .int .i64 0) (h3 : lget l0 3 = b3) (h12 : lget l0 12 = .lbox g12 (vlC v)) (h13 : lget l0 13 = .bool false)
    (he : ∀ l g, lget l 3 = b3 → lget l 13 = .bool (F.any fun y => decide (valE y = v)) → Fr L1_hedgerowlaw07_StoreValues l0 l → K (.exit 4, ⟨⟨l, g⟩, H0⟩)) :
    optW (erun T2 (.loop L1_hedgerowlaw07_StoreValues) ⟨⟨l0, g0⟩, H0⟩) K := by
  refine range_loop (T := T2) (n := F.length) (A := Unit) (fun i _ => [(3, b3), (12, .lbox g12 (vlC v)), (13, .bool ((F.take i).any fun y => decide (valE y = v)))]) (fun i _ _ H' => H' = H0) (c := 69) (b := 4) (I := 68) (N := 67) (d := 79) rfl (by omega) (by decide) ⟨rfl, rfl⟩ (by simp) ?_ ?_ 0 () _ _ H0 (by omega) rfl (by simp [h3, h12, h13]) (.refl _ _ _) h68 h67
  · intro i u l g H' hi hH hh hf hI
    subst hH
    have h66' := hf.get 66 rfl h66 (by simp [hvl.boxy])
    obtain ⟨lt, ix, opt, get, ⟨t, sv⟩, wr_, mem⟩ := at_ok (e := evG) hvl hi (by omega)
    generalize F[i]'hi = y at opt get mem
    have hfy := hof y mem
    have l1 := ev_len hfy.past
    have l4 : List.take 27 (evC y) = evC y := List.take_of_length_le (by rw [l1]; exact Nat.le_refl _)
    have lo := ev_one hfy.past
    have sp := ev_set hfy.past
    have l7 := val_cells hfy.past
    have lv := leaves_vl (valE y) v
    simp only [Holds_cons, Holds_nil, and_true] at hh
    obtain ⟨hh3, hh12, hh13⟩ := hh
    have hs : ((F.take (i + 1)).any fun y => decide (valE y = v)) = (((F.take i).any fun y => decide (valE y = v)) || decide (valE y = v)) := by
      rw [List.take_add_one, opt, List.any_append]; simp
    rw [hs]
    generalize ((F.take i).any fun y => decide (valE y = v)) = b13 at hh13
    have hlx : (vlC v).length = 3 := rfl
    have htx : List.take 3 (vlC v) = vlC v := rfl
    rw [sv] at h66'
    cases b13
    · by_cases hc : valE y = v
      · rw [decide_eq_true hc, hc] at lv
        simp [h66', hI, hh3, hh12, hh13, ix, opt, get, sp, l1, l4, lo, l7, lv, hlx, htx, hc]
      · rw [decide_eq_false hc] at lv
        simp [h66', hI, hh3, hh12, hh13, ix, opt, get, sp, l1, l4, lo, l7, lv, hlx, htx, hc]
    · simp [h66', hI, hh3, hh12, hh13, ix, opt, get, sp, l1, l4, lo, hlx, htx]
  · intro u l g H' hH hh hf
    subst hH
    simp only [Holds_cons, Holds_nil, and_true] at hh
    rw [List.take_length] at hh
    exact he l g hh.1 hh.2.2 hf

/-- Is an event's value one of the values? -/
theorem vals_has (A : List Vl) (hA : A.length ≤ 1000) (va : GV) (x : Evt) (hx : EvFit x) (g17 : Nat) (l0 : List GV) (g0 : Nat) (H0 : GH) (hva : VS H0 va A) (K : GExit × St → Prop)
    (h91 : lget l0 91 = va) (h92 : lget l0 92 = .int .i64 A.length) (h93 : lget l0 93 = .int .i64 0) (h17 : lget l0 17 = .lbox g17 (evC x)) (h18 : lget l0 18 = .bool false)
    (he : ∀ l g, lget l 18 = .bool (A.any fun v => decide (valE x = v)) → Fr L3_hedgerowlaw07_StoreValues l0 l → K (.exit 8, ⟨⟨l, g⟩, H0⟩)) :
    optW (erun T2 (.loop L3_hedgerowlaw07_StoreValues) ⟨⟨l0, g0⟩, H0⟩) K := by
  refine range_loop (T := T2) (n := A.length) (A := Unit) (fun i _ => [(17, .lbox g17 (evC x)), (18, .bool ((A.take i).any fun v => decide (valE x = v)))]) (fun i _ _ H' => H' = H0) (c := 94) (b := 8) (I := 93) (N := 92) (d := 104) rfl (by omega) (by decide) ⟨rfl, rfl⟩ (by simp) ?_ ?_ 0 () _ _ H0 (by omega) rfl (by simp [h17, h18]) (.refl _ _ _) h93 h92
  · intro i u l g H' hi hH hh hf hI
    subst hH
    obtain ⟨id, cs, hv, hr, hle, hat⟩ := hva.at_ hi
    have h91' := hf.get 91 rfl h91 (by rw [hv]; rfl)
    have opt : A[i]? = some A[i] := List.getElem?_eq_getElem hi
    generalize A[i]'hi = w at opt hat
    have l1 := ev_len hx.past
    have l7 := val_cells hx.past
    have lv := leaves_vl (valE x) w
    have ix : gIx A.length (.int .i64 (i : Int)) = some i := by simp only [gIx]; rw [if_pos (by omega)]; simp
    simp only [Holds_cons, Holds_nil, and_true] at hh
    obtain ⟨hh17, hh18⟩ := hh
    have hs : ((A.take (i + 1)).any fun v => decide (valE x = v)) = (((A.take i).any fun v => decide (valE x = v)) || decide (valE x = w)) := by
      rw [List.take_add_one, opt, List.any_append]; simp
    rw [hs]
    generalize ((A.take i).any fun v => decide (valE x = v)) = b18 at hh18
    have hlx : (vlC w).length = 3 := rfl
    have htx : List.take 3 (vlC w) = vlC w := rfl
    have hone : (vlC w).all GV.one = true := rfl
    have sp3 : setPart [GV.int .i64 0, .int .i64 0, .str ⟨#[]⟩] 0 (vlC w) = some (vlC w) := rfl
    rw [hv] at h91'
    cases b18
    · by_cases hc : valE x = w
      · rw [decide_eq_true hc, hc] at lv
        simp [h91', hI, hh17, hh18, ix, hr, hle, hat, sp3, hlx, htx, hone, l1, l7, lv, hc]
      · rw [decide_eq_false hc] at lv
        simp [h91', hI, hh17, hh18, ix, hr, hle, hat, sp3, hlx, htx, hone, l1, l7, lv, hc]
    · simp [h91', hI, hh17, hh18, ix, hr, hle, hat, sp3, hlx, htx, hone]
  · intro u l g H' hH hh hf
    subst hH
    simp only [Holds_cons, Holds_nil, and_true] at hh
    rw [List.take_length] at hh
    exact he l g hh.2 hf

theorem any_val {F : List Evt} {v : Vl} : (F.any fun y => decide (valE y = v)) = true ↔ v ∈ F.map valE := by
  rw [List.any_eq_true, List.mem_map]
  constructor
  · rintro ⟨y, hy, h⟩; exact ⟨y, hy, of_decide_eq_true h⟩
  · rintro ⟨y, hy, h⟩; exact ⟨y, hy, decide_eq_true h⟩
theorem any_vl {A : List Vl} {v : Vl} : (A.any fun w => decide (v = w)) = true ↔ v ∈ A := by
  rw [List.any_eq_true]
  constructor
  · rintro ⟨y, hy, h⟩; rw [of_decide_eq_true h]; exact hy
  · intro h; exact ⟨v, h, decide_eq_true rfl⟩

/-- Each value is above the last one, and one of what is left. -/
theorem vals_first {R : List Evt} (hR : Row R) (vr : GV) (hvr : Elems 27 vr (R.map evG)) (z : El) (A : List Vl) (hA : A.length ≤ 1000) (hAt : ∀ v ∈ A, v.t.length ≤ 1048576) (hrise : A.Pairwise fun a b => ordV a b < 0) (hmem : ∀ v ∈ A, v ∈ (live R z).map valE) (va : GV) (g3 : Nat) (l0 : List GV) (g0 : Nat) (H0 : GH) (hva : VS H0 va A) (hbt : H0.bt ≤ H0.toks.length) (K : GExit × St → Prop)
    (h5 : lget l0 5 = vr) (h10 : lget l0 10 = va) (h45 : lget l0 45 = va) (h46 : lget l0 46 = .int .i64 A.length) (h47 : lget l0 47 = .int .i64 0) (h3 : lget l0 3 = .lbox g3 (elC z))
    (he : ∀ l g H, lget l 3 = .lbox g3 (elC z) → H.objs = H0.objs → H.bt ≤ H.toks.length → Fr L2_hedgerowlaw07_StoreValues l0 l → K (.exit 2, ⟨⟨l, g⟩, H⟩)) :
    optW (erun T2 (.loop L2_hedgerowlaw07_StoreValues) ⟨⟨l0, g0⟩, H0⟩) K := by
  have hRl := hR.le
  obtain ⟨_, hup⟩ := causl_up (v := zero16) rfl hR.causl
  have hok : ∀ e ∈ R, EvOk e := fun e he => ⟨hR.fit e he, (hup e he).1⟩
  have hvb : va.boxy = false := by rcases hva with ⟨rfl, _⟩ | ⟨id, Z, rfl, _⟩ <;> rfl
  refine range_loop (T := T2) (n := A.length) (A := Unit) (fun i _ => [(3, .lbox g3 (elC z))]) (fun i _ _ H' => H'.objs = H0.objs ∧ H'.bt ≤ H'.toks.length) (c := 48) (b := 2) (I := 47) (N := 46) (d := 82) rfl (by omega) (by decide) ⟨rfl, rfl⟩ (by simp) ?_ ?_ 0 () _ _ H0 (by omega) ⟨rfl, hbt⟩ (by simp [h3]) (.refl _ _ _) h47 h46
  · intro i u l g H' hi ⟨hob, hbt'⟩ hh hf hI
    have hva' := hva.keep hob
    have h5' := hf.get 5 rfl h5 (by simp [hvr.boxy])
    have h10' := hf.get 10 rfl h10 (by simp [hvb])
    have h45' := hf.get 45 rfl h45 (by simp [hvb])
    have ru := elemsUnbox hvr
    have rk := hvr.ok
    obtain ⟨id, cs, hv, hr, hle, hat⟩ := hva'.at_ hi
    have hprev : ∀ h0 : 0 < i, (i - 1) * 3 + 3 ≤ cs.length ∧ (cs.drop ((i - 1) * 3)).take 3 = vlC A[i - 1] ∧ ordV A[i - 1] A[i] < 0 := fun h0 => by
      obtain ⟨id2, cs2, hv2, hr2, hle2, hat2⟩ := hva'.at_ (i := i - 1) (by omega)
      rw [hv] at hv2
      injection hv2 with e1
      rw [← e1, hr] at hr2
      injection hr2 with e2
      injection e2 with _ e3
      rw [← e3] at hle2 hat2
      exact ⟨hle2, hat2, (List.pairwise_iff_getElem.1 hrise) (i - 1) i (by omega) hi (by omega)⟩
    have opt : A[i]? = some A[i] := List.getElem?_eq_getElem hi
    have mem : A[i] ∈ A := List.getElem_mem hi
    have htl := hAt _ mem
    have hm := hmem _ mem
    generalize hw : A[i]'hi = w at opt hat mem htl hm hprev
    obtain ⟨vl, H1, hlv, hGl⟩ := ref_Live (by omega) hok vr hvr z H' hbt'
    have hlv := up hlv
    have hleE := hGl.app.elems
    have lk := hleE.ok
    have lu := elemsUnbox hleE
    have ll := hleE.len
    simp only [List.length_map] at ll
    have hlf : ∀ y ∈ live R z, EvFit y := fun y hy => hR.fit y (List.mem_filter.1 hy).1
    have hfl : (live R z).length ≤ 1000 := Nat.le_trans (List.length_filter_le _ _) (by omega)
    have ix : gIx A.length (.int .i64 (i : Int)) = some i := by simp only [gIx]; rw [if_pos (by omega)]; simp
    simp only [Holds_cons, Holds_nil, and_true] at hh
    have hlx : (vlC w).length = 3 := rfl
    have htx : List.take 3 (vlC w) = vlC w := rfl
    have hone : (vlC w).all GV.one = true := rfl
    have sp3 : setPart [GV.int .i64 0, .int .i64 0, .str ⟨#[]⟩] 0 (vlC w) = some (vlC w) := rfl
    have hlz : (elC z).length = 5 := rfl
    have htz : List.take 5 (elC z) = elC z := rfl
    have hany := any_val.2 hm
    have k45 := h45'
    rw [hv] at h45'
    have h10v := h10'
    rw [hv] at h10'
    have fin : ∀ (l1 : List GV) (g1 : Nat), lget l1 66 = vl → lget l1 67 = .int .i64 (live R z).length → lget l1 68 = .int .i64 0 → lget l1 3 = .lbox g3 (elC z) → lget l1 12 = .lbox g (vlC w) → lget l1 13 = .bool false →
        optW (erun T2 (.loop L1_hedgerowlaw07_StoreValues) ⟨⟨l1, g1⟩, H1⟩) fun r => ∃ l2 g2, r = (.exit 4, ⟨⟨l2, g2⟩, H1⟩) ∧ lget l2 3 = .lbox g3 (elC z) ∧ lget l2 13 = .bool true := fun l1 g1 q66 q67 q68 q3 q12 q13 => by
      refine vals_in hfl hlf vl hleE w (.lbox g3 (elC z)) g l1 g1 H1 _ q66 q67 q68 q3 q12 q13 ?_
      intro l2 g2 j3 j13 _
      exact ⟨l2, g2, rfl, j3, by rw [j13, hany]⟩
    have hob1 : H1.objs = H0.objs := hGl.step.objs.trans hob
    have hbt1 := hGl.step.btle hbt'
    by_cases h0 : 0 < i
    · obtain ⟨p1, p2, p3⟩ := hprev h0
      have h0' : (0 : Int) < (i : Int) := by omega
      have hcp := up (ref_Compare A[i - 1] w (hAt _ (List.getElem_mem (by omega))) H')
      generalize A[i - 1] = pv at p2 p3 hcp
      have hlp : (vlC pv).length = 3 := rfl
      have htp : List.take 3 (vlC pv) = vlC pv := rfl
      have w0 : IntKind.i64.wrap ((i : Int) - 1) = (i : Int) - 1 := wrap_i64' (by omega) (by omega)
      have ix2 : gIx A.length (.int .i64 ((i : Int) - 1)) = some (i - 1) := by simp only [gIx]; rw [if_pos (by omega)]; congr 1; omega
      have hng : ¬ (0 : Int) ≤ ordV pv w := by omega
      have hng2 : ordV pv w < 0 := p3
      simp [h5', h45', h10', hI, hh, ix, ix2, w0, hr, hle, hat, p1, p2, sp3, hlx, htx, hone, hlz, htz, h0, h0', hcp, hng, hng2, hlv, lk, lu, ll, ru, rk]
      rw [wp_blockK, wp_seqK, wp_blockK]
      refine optW.mono (fin _ _ (by simp [lu]) (by simp) (by simp) (by simp [hh]) (by simp) (by simp)) ?_
      rintro _ ⟨l2, g2, rfl, j3, j13⟩
      simp [j3, j13]
      exact fun _ => ⟨hob1, hbt1⟩
    · have h0i : i = 0 := by omega
      have h0' : ¬ (0 : Int) < (i : Int) := by omega
      simp [h5', h45', h10', hI, hh, ix, hr, hle, hat, sp3, hlx, htx, hone, hlz, htz, h0, h0', hlv, lk, lu, ll, ru, rk]
      rw [wp_blockK, wp_seqK, wp_blockK]
      refine optW.mono (fin _ _ (by simp [lu]) (by simp) (by simp) (by simp [hh]) (by simp) (by simp)) ?_
      rintro _ ⟨l2, g2, rfl, j3, j13⟩
      simp [j3, j13]
      exact fun _ => ⟨hob1, hbt1⟩
  · intro u l g H' ⟨hob, hbt'⟩ hh hf
    simp only [Holds_cons, Holds_nil, and_true] at hh
    exact he l g H' hh hob hbt' hf
end Go.Proofs.YthmplnbogdfajaaGreatDoor

namespace Go.Proofs.YthmplnbogdfajaaGreatDoor
open Go.Sh
set_option maxHeartbeats 4000000
set_option maxRecDepth 100000

/-! ## StoreValues -/

theorem vals_second {F : List Evt} (hF : F.length ≤ 1000) (hof : ∀ y ∈ F, EvFit y) (vl : GV) (hvl : Elems 27 vl (F.map evG)) (A : List Vl) (hA : A.length ≤ 1000) (va : GV) (hmem : ∀ y ∈ F, valE y ∈ A) (l0 : List GV) (g0 : Nat) (H0 : GH) (hva : VS H0 va A) (hok : va.ok = true) (hun : ∀ t, unbox t va = va) (K : GExit × St → Prop)
    (h10 : lget l0 10 = va) (h85 : lget l0 85 = vl) (h86 : lget l0 86 = .int .i64 F.length) (h87 : lget l0 87 = .int .i64 0)
    (he : ∀ l g, K (.exit 6, ⟨⟨l, g⟩, H0⟩)) :
    optW (erun T2 (.loop L4_hedgerowlaw07_StoreValues) ⟨⟨l0, g0⟩, H0⟩) K := by
  have hvb : va.boxy = false := by rcases hva with ⟨rfl, _⟩ | ⟨id, Z, rfl, _⟩ <;> rfl
  have hlen := fun (l : List GV) (g : Nat) (H' : GH) => hva.len (ecall T2) l g H'
  refine range_loop (T := T2) (n := F.length) (A := Unit) (fun i _ => []) (fun i _ _ H' => H' = H0) (c := 88) (b := 6) (I := 87) (N := 86) (d := 107) rfl (by omega) (by decide) ⟨rfl, rfl⟩ (by simp) ?_ ?_ 0 () _ _ H0 (by omega) rfl (by simp) (.refl _ _ _) h87 h86
  · intro i u l g H' hi hH hh hf hI
    subst hH
    have h10' := hf.get 10 rfl h10 (by simp [hvb])
    have h85' := hf.get 85 rfl h85 (by simp [hvl.boxy])
    obtain ⟨lt, ix, opt, get, ⟨t, sv⟩, wr_, mem⟩ := at_ok (e := evG) hvl hi (by omega)
    generalize F[i]'hi = x at opt get mem
    have hfx := hof x mem
    have l1 := ev_len hfx.past
    have l4 : List.take 27 (evC x) = evC x := List.take_of_length_le (by rw [l1]; exact Nat.le_refl _)
    have lo := ev_one hfx.past
    have sp := ev_set hfx.past
    have hany := any_vl.2 (hmem x mem)
    rw [sv] at h85'
    simp [h10', h85', hI, ix, opt, get, sp, l1, l4, lo, hlen, hok, hun]
    rw [wp_blockK, wp_seqK, wp_blockK]
    refine vals_has A hA va x hfx g _ _ H' hva _ (by simp [hun]) (by simp) (by simp) (by simp) (by simp) ?_
    intro l2 g2 j18 hf2
    rw [hany] at j18
    simp [j18]
  · intro u l g H' hH hh hf
    subst hH
    exact he l g

theorem vals_dos {R : List Evt} (hR : Row R) (vr : GV) (hvr : Elems 27 vr (R.map evG)) (s m : Nat) (l0 : List GV) (g0 : Nat) (H0 : GH) (hS : Sto H0 s m []) (hbo : H0.bo ≤ H0.objs.length) (K : GExit × St → Prop)
    (h32 : lget l0 32 = vr) (h33 : lget l0 33 = .int .i64 R.length) (h34 : lget l0 34 = .int .i64 0) (h7 : lget l0 7 = .ptr s 0) (b3 : GV) (h3 : lget l0 3 = b3)
    (he : ∀ l g H, lget l 3 = b3 → Sto H s m (doAll R) → Stepm m H0 H → Fr L0_hedgerowlaw07_StoreValues l0 l → K (.exit 0, ⟨⟨l, g⟩, H⟩)) :
    optW (erun T2 (.loop L0_hedgerowlaw07_StoreValues) ⟨⟨l0, g0⟩, H0⟩) K := by
  have hle := hR.le
  refine range_loop (T := T2) (n := R.length) (A := Unit) (fun _ _ => [(3, b3)]) (fun i _ _ H' => Sto H' s m (doAll (R.take i)) ∧ Stepm m H0 H') (c := 35) (b := 0) (I := 34) (N := 33) (d := 41) rfl (by omega) (by decide) ⟨rfl, rfl⟩ (by simp) ?_ ?_ 0 () _ _ H0 (by omega) ⟨hS, .refl _ _⟩ (by simp [h3]) (.refl _ _ _) h34 h33
  · intro i a l g H' hi ⟨hA, hSt⟩ hh hf hI
    have h32' := hf.get 32 rfl h32 (by simp [hvr.boxy])
    have h7' := hf.get 7 rfl h7 rfl
    obtain ⟨lt, ix, opt, get, ⟨t, sv⟩, wr_, mem⟩ := at_ok (e := evG) hvr hi (by omega)
    generalize R[i]'hi = e at opt get mem
    have hfe := hR.fit e mem
    have l1 := ev_len hfe.past
    have l4 : List.take 27 (evC e) = evC e := List.take_of_length_le (by rw [l1]; exact Nat.le_refl _)
    have lo := ev_one hfe.past
    have sp := ev_set hfe.past
    obtain ⟨H1, hd, hA1, hSt1⟩ := hR.step opt hA (hSt.bole hbo)
    rw [sv] at h32'
    simp only [Holds_cons, Holds_nil, and_true] at hh
    simp [hh, h32', h7', hI, ix, opt, get, sp, l1, l4, lo, hd]
    exact fun _ => ⟨hA1, hSt.trans hSt1⟩
  · intro i l g H' ⟨hA, hSt⟩ hh hf
    rw [List.take_length] at hA
    simp only [Holds_cons, Holds_nil, and_true] at hh
    exact he l g H' hh hA hSt hf

theorem storeValues_ok (E : List Evt) (hE : E.length ≤ 9223372036854775807) (hin : ∀ e ∈ E, EvIn e) (ve : GV) (hve : Elems 27 ve (E.map evG)) (z : El) (hz : ElBig z) (hzr : ElRange z) (H : GH) (hbo : H.bo ≤ H.objs.length) (hbt : H.bt ≤ H.toks.length) :
    ∃ H', ecall T2 f_hedgerowlaw07_StoreValues [ve, .agg (elC z)] H = some (.bool true, H') := by
  have hfx := fixed7_ok
  obtain ⟨fb, hfew, hfb⟩ := few_ok E hE (fun e he => (hin e he).big) ve hve H
  have hfew := up hfew
  have hlz : (elC z).length = 5 := rfl
  have htz : List.take 5 (elC z) = elC z := rfl
  have key : optW (ecall T2 f_hedgerowlaw07_StoreValues [ve, .agg (elC z)] H) fun r => ∃ H', r = (.bool true, H') := by
    rw [ecall_0 (T2_up _ _ T_hedgerowlaw07_StoreValues) rfl (by simp [F_hedgerowlaw07_StoreValues]), wp_fin1]
    simp only [F_hedgerowlaw07_StoreValues, b_hedgerowlaw07_StoreValues]
    have hue := elemsUnbox hve
    have hok := hve.ok
    cases fb with
    | false => simp [hfx, hue, hok, hfew]
    | true =>
      obtain ⟨hl60, hsh⟩ := hfb rfl
      have hfit : ∀ e ∈ E, EvFit e := fun e he => (hin e he).fit (hsh e he)
      obtain ⟨vr, H1, hca, hG⟩ := ref_Causal E (by omega) hfit ve hve H hbt
      have hca := up hca
      have hrow := row_of hl60 hfit
      have hcl := (causal_out E).2
      generalize (causal E).1 = R at hrow hG
      generalize (causal E).2 = kv at hcl hca
      have hrok := hG.ok
      have hre := hG.app.elems
      have hrl := hre.len
      have hru := elemsUnbox hre
      simp only [List.length_map] at hrl
      have hbo1 : H1.bo ≤ H1.objs.length := by rw [hG.step.objs, hG.step.bo]; exact hbo
      have hbt1 := hG.step.btle hbt
      have hone : ∀ z : List GV, z.length = 16 → setPart z 0 (kv.map intG) = some (kv.map intG) := fun z hz => by
        simp only [setPart, hz, List.length_map, hcl]; simp [hcl, hz]
      have ho2 : kv.all (GV.one ∘ intG) = true := by rw [List.all_eq_true]; intros; rfl
      have t3 : List.take 16 kv = kv := List.take_of_length_le (by omega)
      have n1 := new_ok H1
      have s1 := Sto.new H1 hbo1
      have m1 := new_more H1
      generalize newH H1 = H2 at n1 s1 m1
      have q1 := More.step (m := 0) m1
      have hbo2 : H2.bo ≤ H2.objs.length := by rw [m1.bo]; exact Nat.le_trans hbo1 m1.len
      have hbt2 : H2.bt ≤ H2.toks.length := by rw [q1.bt, q1.toks]; exact hbt1
      have hrle := hrow.le
      simp [hfx, hue, hok, hfew, hca, hrok, hrl, hru, hcl, hone, ho2, t3, n1]
      rw [wp_seqK, wp_blockK]
      refine vals_dos hrow vr hre (H1.objs.length + 1) H1.objs.length _ _ H2 s1 hbo2 _ (by simp [hru]) (by simp) (by simp) (by simp) (.lbox 0 (elC z)) (by simp) ?_
      intro l4 g4 H4 k3 sA stA hf4
      have hgood := hrow.good
      have hbo4 := stA.bole hbo2
      have hbt4 : H4.bt ≤ H4.toks.length := by rw [stA.bt, stA.toks]; exact hbt2
      have k7 := hf4.get 7 rfl (v := .ptr (H1.objs.length + 1) 0) (by simp) rfl
      have k5 := hf4.get 5 rfl (v := vr) (by simp [hru]) (by simp [hre.boxy])
      have hk := el_key' hz hzr
      have hlen := hgood.len z
      obtain ⟨va, H5, hvals, ⟨A, hVA⟩, vok, vun, b5, t5⟩ := values_ok sA z hk (by omega) hbo4
      have hvals := up hvals
      have hbt5 : H5.bt ≤ H5.toks.length := by rw [b5, t5]; exact hbt4
      obtain ⟨hVS, hAl, hrise, hAm⟩ := vals_of hVA
      have hmm : ∀ x, x ∈ A ↔ x ∈ (live R z).map valE := fun x => by
        rw [hAm]
        have hp := (live_all hrow z).map valOf
        rw [List.map_map] at hp
        exact hp.mem_iff
      have hAt : ∀ v ∈ A, v.t.length ≤ 1048576 := fun v hv => by
        obtain ⟨y, hy, rfl⟩ := List.mem_map.1 ((hmm v).1 hv)
        exact (hrow.fit y (List.mem_filter.1 hy).1).t
      have vlen := fun (l : List GV) (g : Nat) (H' : GH) => hVS.len (ecall T2) l g H'
      have hvb : va.boxy = false := by rcases hVS with ⟨rfl, _⟩ | ⟨id, Z, rfl, _⟩ <;> rfl
      simp [k3, k5, k7, hlz, htz, hvals, vok, vun, vlen]
      rw [wp_seqK, wp_blockK]
      refine vals_first hrow vr hre z A (by omega) hAt hrise (fun v hv => (hmm v).1 hv) va 0 _ _ H5 hVS hbt5 _ (by simp [k5, hru]) (by simp [vun]) (by simp [vun]) (by simp) (by simp) (by simp [k3]) ?_
      intro l6 g6 H6 i3 hob hbt6 hf6
      have i5 := hf6.get 5 rfl (v := vr) (by simp [k5, hru]) (by simp [hre.boxy])
      have i10 := hf6.get 10 rfl (v := va) (by simp [vun]) (by simp [hvb])
      obtain ⟨_, hup⟩ := causl_up (v := zero16) rfl hrow.causl
      obtain ⟨vl, H7, hlv, hGl⟩ := ref_Live (by omega) (fun e he => ⟨hrow.fit e he, (hup e he).1⟩) vr hre z H6 hbt6
      have hlv := up hlv
      have hle := hGl.app.elems
      have lk := hle.ok
      have lu := elemsUnbox hle
      have ll := hle.len
      simp only [List.length_map] at ll
      have hfl : (live R z).length ≤ 1000 := Nat.le_trans (List.length_filter_le _ _) (by omega)
      have hVS7 := hVS.keep (hGl.step.objs.trans hob)
      simp [i3, i5, i10, hlz, htz, hru, hrok, hlv, lk, lu, ll]
      rw [wp_seqK, wp_blockK]
      refine vals_second (F := live R z) hfl (fun y hy => hrow.fit y (List.mem_filter.1 hy).1) vl hle A (by omega) va (fun y hy => (hmm _).2 (List.mem_map_of_mem hy)) _ _ H7 hVS7 vok vun _ (by simp [i10]) (by simp [lu]) (by simp) (by simp) ?_
      intro l8 g8
      simp
  obtain ⟨r, h, H', rfl⟩ := key
  exact ⟨H', h⟩
end Go.Proofs.YthmplnbogdfajaaGreatDoor

namespace Go.Proofs.YthmplnbogdfajaaGreatDoor
open Go.Sh Go.ChangeShapes Go.WideShapes Go.ChangeAt Go.RowKit
set_option maxRecDepth 100000

theorem storeValues_args (gargs : List GV) (h : ArgsFit [.slice evSh, elSh] gargs) : ∃ H', ecall T2 f_hedgerowlaw07_StoreValues gargs (isoH Tryz.prog.globals.size) = some (.bool true, H') := by
  cases h with
  | cons h1 t1 =>
  cases t1 with
  | cons h2 t2 =>
    cases t2
    obtain ⟨E, hE, he, hel⟩ := fits_list (f := evG) (fun c hc => fits_ev hc) h1
    obtain ⟨z, rfl, hz, hzr⟩ := cells_el h2
    exact storeValues_ok E (by unfold maxLen at hel; omega) he _ hE z hz hzr _ (by simp [isoH]) (by simp [isoH])
end Go.Proofs.YthmplnbogdfajaaGreatDoor
