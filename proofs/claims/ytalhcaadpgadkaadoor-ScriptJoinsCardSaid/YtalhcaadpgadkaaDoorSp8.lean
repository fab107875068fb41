/- Own work, over the shadow machine: JSpec8. -/
import Derived.Test.YtalhcaadpgadkaaDoorSp7
set_option linter.all false
namespace Go.Proofs.YtalhcaadpgadkaaDoor
open Go.Sh
set_option maxRecDepth 100000

/-! ## A step's text -/

theorem num_range {x : Stp} (hf : SFit x) {p : Nat} (h1 : 1 ≤ p) (h5 : p ≤ 5) : -9223372036854775808 ≤ x.num p ∧ x.num p ≤ 9223372036854775807 := by
  obtain ⟨r1, r2, s1, s2, i1, i2, p1, p2, t1, t2, b1, b2⟩ := hf
  have : p = 1 ∨ p = 2 ∨ p = 3 ∨ p = 4 ∨ p = 5 := by omega
  rcases this with rfl | rfl | rfl | rfl | rfl <;> simp only [Stp.num] <;> omega

theorem num_cell (x : Stp) (v : GV) {p : Nat} (h1 : 1 ≤ p) (h5 : p ≤ 5) : (stpC x v)[p]? = some (.int .i64 (x.num p)) := by
  have : p = 1 ∨ p = 2 ∨ p = 3 ∨ p = 4 ∨ p = 5 := by omega
  rcases this with rfl | rfl | rfl | rfl | rfl <;> rfl

theorem ownL_in (k : Int) : (ownL k).length ≤ 3 ∧ ∀ o ∈ ownL k, 1 ≤ o ∧ o ≤ 5 := by
  unfold ownL
  split
  · decide
  · split
    · decide
    · split
      · decide
      · split
        · decide
        · split <;> decide

theorem out_of {n : Int} (h1 : -9223372036854775808 ≤ n) (h2 : n ≤ 9223372036854775807) :
    (okN n = true → ¬ 999999999 < (if n < IntKind.i64.wrap (-n) then IntKind.i64.wrap (-n) else n) ∧ ¬ n < -999999999) ∧
    (okN n = false → 999999999 < (if n < IntKind.i64.wrap (-n) then IntKind.i64.wrap (-n) else n) ∨ (¬ 999999999 < (if n < IntKind.i64.wrap (-n) then IntKind.i64.wrap (-n) else n) ∧ n < -999999999)) := by
  by_cases hm : n = -9223372036854775808
  · subst hm
    have : IntKind.i64.wrap (-(-9223372036854775808)) = -9223372036854775808 := by decide
    rw [this]
    decide
  · have hw : IntKind.i64.wrap (-n) = -n := wrap_i64' (by omega) (by omega)
    rw [hw]
    simp only [okN, decide_eq_true_eq, decide_eq_false_iff_not]
    constructor
    · intro h; split <;> omega
    · intro h; split <;> omega

theorem own_loop (x : Stp) (hf : SFit x) (v : GV) (id : Nat) (all : List Nat) (hall : all.length ≤ 3) (hin : ∀ o ∈ all, 1 ≤ o ∧ o ≤ 5) (xs : List Nat) : ∀ (j : Nat) (_ : all.drop j = xs) (l : List GV) (g : Nat) (H : GH) (K : GExit × St → Prop) (ws : List (List UInt8)) (o : GV)
    (_ : lget l 33 = .sl 1 (all.map fun o => .ptr id o) .exact) (_ : lget l 34 = .int .i64 all.length) (_ : lget l 35 = .int .i64 j) (_ : lget l 4 = o) (_ : App H 1 o (ws.map strG)) (_ : H.bt ≤ H.toks.length) (_ : ws.length ≤ 2 + j) (_ : H.objs[id]? = some (.cells 33 (stpC x v)))
    (_ : ∀ (l' : List GV) (H' : GH) (o' : GV), xs.all (fun p => okN (x.num p)) = true → lget l' 1 = lget l 1 → lget l' 4 = o' → App H' 1 o' ((ws ++ xs.map (fun p => Lib.itoa (x.num p))).map strG) → H'.bt ≤ H'.toks.length → H'.objs = H.objs → K (.exit 0, ⟨⟨l', g⟩, H'⟩))
    (_ : ∀ (l' : List GV) (H' : GH), xs.all (fun p => okN (x.num p)) = false → lget l' 2 = .str ⟨#[]⟩ → lget l' 3 = .bool false → K (.ret, ⟨⟨l', g⟩, H'⟩)),
    optW (erun T (.loop L0_script_step) ⟨⟨l, g⟩, H⟩) K := by
  induction xs with
  | nil =>
    intro j hd l g H K ws o h33 h34 h35 h4 hA hbt hws ho he hr
    have hle : all.length ≤ j := by simpa using hd
    have hge : ¬ ((j : Int) < all.length) := by omega
    have hge' : ¬ (j < all.length) := by omega
    rw [run_loop]
    simp [L0_script_step, h34, h35, hge, hge']
    exact he _ H o rfl (by simp) (by simp [h4]) (by simpa using hA) hbt rfl
  | cons p xs ih =>
    intro j hd l g H K ws o h33 h34 h35 h4 hA hbt hws ho he hr
    have hj : j < all.length := by
      rcases Nat.lt_or_ge j all.length with h1 | h1
      · exact h1
      · rw [List.drop_eq_nil_of_le h1] at hd; cases hd
    have hgv : all[j]? = some p := by
      have := congrArg (·[0]?) hd
      simpa using this
    have hd' : all.drop (j + 1) = xs := by
      have := congrArg List.tail hd
      simpa using this
    have hgd : ∀ h : j < all.length, all[j]'h = p := fun h => by rw [List.getElem?_eq_getElem h] at hgv; exact Option.some.inj hgv
    obtain ⟨hp1, hp5⟩ := hin p (List.mem_of_getElem? hgv)
    have hcell := num_cell x v hp1 hp5
    obtain ⟨n1, n2⟩ := num_range hf hp1 hp5
    obtain ⟨q1, q2⟩ := out_of n1 n2
    have hit := fun H => itoa_lib (x.num p) n1 n2 H
    simp only [mk_mkB] at hit
    generalize hcs : stpC x v = cs at hcell ho
    obtain ⟨mx, hmx⟩ : ∃ mx, (if x.num p < IntKind.i64.wrap (-x.num p) then IntKind.i64.wrap (-x.num p) else x.num p) = mx := ⟨_, rfl⟩
    rw [hmx] at q1 q2
    have hlt : (j : Int) < all.length := by omega
    have hix : gIx all.length (.int .i64 (j : Int)) = some j := by simp only [gIx]; rw [if_pos (by omega)]; simp
    have hw : IntKind.i64.wrap ((j : Int) + 1) = (j : Int) + 1 := wrap_i64' (by omega) (by omega)
    cases hok : okN (x.num p) with
    | false =>
      rcases q2 hok with h | ⟨h, h'⟩
      · rw [run_loop, wp_seqK]
        simp [L0_script_step, h33, h34, h35, h4, hlt, hj, hix, hgv, hgd, ho, hcell, hmx, h]
        exact hr _ H (by simp [hok]) (by simp) (by simp)
      · rw [run_loop, wp_seqK]
        simp [L0_script_step, h33, h34, h35, h4, hlt, hj, hix, hgv, hgd, ho, hcell, hmx, h, h']
        exact hr _ H (by simp [hok]) (by simp) (by simp)
    | true =>
      obtain ⟨h, h'⟩ := q1 hok
      obtain ⟨o', H', hap, hA', hstep, _⟩ := append_ok (ty := 9) (bytes := 16) (x := .sl 1 [.str (mkB (Lib.itoa (x.num p)))] .exact) (ys := [.str (mkB (Lib.itoa (x.num p)))]) hA (by simp [gNews]) hbt (by simp [room]; omega) (by simp [maxLen]; omega)
      have hbt' : H'.bt ≤ H'.toks.length := hstep.btle hbt
      have hmm : ws.map strG ++ [.str (mkB (Lib.itoa (x.num p)))] = (ws ++ [Lib.itoa (x.num p)]).map strG := by simp [strG]
      rw [hmm] at hA'
      rw [run_loop, wp_seqK]
      simp [L0_script_step, h33, h34, h35, h4, hlt, hj, hix, hgv, hgd, ho, hcell, hmx, h, h', hit, appUnbox hA, appUnbox hA', gSetAll, hap, hw]
      refine ih (j + 1) hd' _ g H' K (ws ++ [Lib.itoa (x.num p)]) o' ?_ ?_ ?_ ?_ hA' hbt' (by simp; omega) (by rw [hstep.objs, hcs]; exact ho) ?_ ?_
      · simp [h33]
      · simp [h34]
      · simp
      · simp
      · intro l' H2 o2 f0 f1 f4 f6 f7 f8
        exact he l' H2 o2 (by simpa [hok] using f0) (by rw [f1]; simp) f4 (by simpa using f6) f7 (f8.trans hstep.objs)
      · intro l' H2 f0 f2 f3
        exact hr l' H2 (by simpa [hok] using f0) f2 f3

theorem chs_loop (all : List Chg) (hfit : ∀ c ∈ all, CFit c) (hall : all.length ≤ 1000) (v : GV) (hv : Elems 9 v (all.map chgG)) (xs : List Chg) : ∀ (j : Nat) (_ : all.drop j = xs) (l : List GV) (g : Nat) (H : GH) (K : GExit × St → Prop) (ws : List (List UInt8)) (o : GV)
    (_ : lget l 86 = v) (_ : lget l 87 = .int .i64 all.length) (_ : lget l 88 = .int .i64 j) (_ : lget l 7 = o) (_ : App H 1 o (ws.map strG)) (_ : H.bt ≤ H.toks.length) (_ : ws.length ≤ 2 + j)
    (_ : ∀ (l' : List GV) (g' : Nat) (H' : GH) (o' : GV), xs.all Chg.okB = true → lget l' 7 = o' → App H' 1 o' ((ws ++ xs.map Chg.text).map strG) → H'.bt ≤ H'.toks.length → H'.objs = H.objs → K (.exit 2, ⟨⟨l', g'⟩, H'⟩))
    (_ : ∀ (l' : List GV) (g' : Nat) (H' : GH), xs.all Chg.okB = false → lget l' 2 = .str ⟨#[]⟩ → lget l' 3 = .bool false → K (.ret, ⟨⟨l', g'⟩, H'⟩)),
    optW (erun T (.loop L1_script_step) ⟨⟨l, g⟩, H⟩) K := by
  induction xs with
  | nil =>
    intro j hd l g H K ws o h86 h87 h88 h7 hA hbt hws he hr
    have hle : all.length ≤ j := by simpa using hd
    have hge : ¬ ((j : Int) < all.length) := by omega
    have hge' : ¬ (j < all.length) := by omega
    rw [run_loop]
    simp [L1_script_step, h87, h88, hge, hge']
    exact he _ g H o rfl (by simp [h7]) (by simpa using hA) hbt rfl
  | cons c xs ih =>
    intro j hd l g H K ws o h86 h87 h88 h7 hA hbt hws he hr
    have hj : j < all.length := by
      rcases Nat.lt_or_ge j all.length with h1 | h1
      · exact h1
      · rw [List.drop_eq_nil_of_le h1] at hd; cases hd
    have hgv : all[j]? = some c := by
      have := congrArg (·[0]?) hd
      simpa using this
    have hd' : all.drop (j + 1) = xs := by
      have := congrArg List.tail hd
      simpa using this
    have hgd : ∀ h : j < all.length, all[j]'h = c := fun h => by rw [List.getElem?_eq_getElem h] at hgv; exact Option.some.inj hgv
    have hgm : (all.map chgG)[j]? = some (chgG c) := by simp [hgv]
    obtain ⟨t, hvt⟩ := hv.is_sl hgm
    have hch := script_Change c (hfit c (List.mem_of_getElem? hgv))
    have hlt : (j : Int) < all.length := by omega
    have hix : gIx all.length (.int .i64 (j : Int)) = some j := by simp only [gIx]; rw [if_pos (by omega)]; simp
    have hw : IntKind.i64.wrap ((j : Int) + 1) = (j : Int) + 1 := wrap_i64' (by omega) (by omega)
    rw [hvt] at h86
    cases hok : c.okB with
    | false =>
      rw [hok] at hch
      simp only [chgG, chgC] at hch
      rw [run_loop, wp_seqK]
      simp [L1_script_step, h86, h87, h88, hlt, hj, hix, hgv, hgd, chgG, chgC, setPart, hch]
      exact hr _ _ H (by simp [hok]) (by simp) (by simp)
    | true =>
      rw [hok] at hch
      have htx : chgTx c = c.text := by simp [chgTx, hok]
      rw [htx] at hch
      simp only [chgG, chgC] at hch
      obtain ⟨o', H', hap, hA', hstep, _⟩ := append_ok (ty := 9) (bytes := 16) (x := .sl 1 [.str (mkB c.text)] .exact) (ys := [.str (mkB c.text)]) hA (by simp [gNews]) hbt (by simp [room]; omega) (by simp [maxLen]; omega)
      have hbt' : H'.bt ≤ H'.toks.length := hstep.btle hbt
      have hmm : ws.map strG ++ [.str (mkB c.text)] = (ws ++ [c.text]).map strG := by simp [strG]
      rw [hmm] at hA'
      rw [run_loop, wp_seqK]
      simp [L1_script_step, h86, h87, h88, h7, hlt, hj, hix, hgv, hgd, chgG, chgC, setPart, hch, appUnbox hA, appUnbox hA', gSetAll, hap, hw]
      refine ih (j + 1) hd' _ _ H' K (ws ++ [c.text]) o' ?_ ?_ ?_ ?_ hA' hbt' (by simp; omega) ?_ ?_
      · simp [h86, hvt]
      · simp [h87]
      · simp
      · simp
      · intro l' g' H2 o2 f0 f4 f6 f7 f8
        exact he l' g' H2 o2 (by simpa [hok] using f0) f4 (by simpa using f6) f7 (f8.trans hstep.objs)
      · intro l' g' H2 f0 f2 f3
        exact hr l' g' H2 (by simpa [hok] using f0) f2 f3
end Go.Proofs.YtalhcaadpgadkaaDoor
