/- Own work, over the shadow machine: JSpec3. -/
import Derived.Test.YtalhcaadpgadkaaDoorSp2
set_option linter.all false
namespace Go.Proofs.YtalhcaadpgadkaaDoor
open Go.Sh
set_option maxRecDepth 100000

theorem appUnbox {H : GH} {sz : Nat} {s : GV} {xs : List GV} (h : App H sz s xs) (t : Nat) : unbox t s = s := by cases h <;> rfl
theorem elemsUnbox {sz : Nat} {s : GV} {xs : List GV} (h : Elems sz s xs) (t : Nat) : unbox t s = s := by cases h <;> rfl

/-- Cells of a change. -/
def chgC (x : Chg) : List GV := [.int .i64 x.op, .int .i64 x.ek, .str (mkB x.a), .str (mkB x.b), .str (mkB x.c), .str (mkB x.d), .int .i64 x.vk, .int .i64 x.vn, .str (mkB x.vt)]
def chgG (x : Chg) : GV := .agg (chgC x)

/-- Where an element's names stand in a change's cells. -/
def partO (k : Int) : List Nat := if k = 1 then [2] else if k = 3 then [2, 4, 3] else if k = 5 then [2, 4, 3, 5] else [2, 5]
def cAt (x : Chg) : Nat → List UInt8
  | 2 => x.a | 3 => x.b | 4 => x.c | _ => x.d

theorem partO_at (x : Chg) : (partO x.ek).map (cAt x) = partsL x.ek x.a x.b x.c x.d := by
  unfold partO partsL
  split
  · rfl
  · split
    · rfl
    · split <;> rfl

theorem parts_ok {H : GH} {id t : Nat} (c0 ek c2 c3 c4 c5 c6 c7 c8 : GV) (k : Int) (hk : ek = .int .i64 k) (ho : H.objs[id]? = some (.cells t [c0, ek, c2, c3, c4, c5, c6, c7, c8])) :
    ecall T f_script_parts [.ptr id 1] H = some (.sl 1 ((partO k).map fun o => .ptr id o) .exact, H) := by
  subst hk
  apply optW.eq
  rw [ecall_0 T_script_parts rfl (by simp [F_script_parts]), wp_fin1]
  by_cases h1 : k = 1
  · simp [F_script_parts, b_script_parts, ho, partO, h1, gSetAll]
  · by_cases h3 : k = 3
    · simp [F_script_parts, b_script_parts, ho, partO, h3, gSetAll]
    · by_cases h5 : k = 5 <;> simp [F_script_parts, b_script_parts, ho, partO, h1, h3, h5, gSetAll]

theorem chg_loop (x : Chg) (id : Nat) (all : List Nat) (hall : all.length ≤ 10) (hin : ∀ o ∈ all, 2 ≤ o ∧ o ≤ 5) (xs : List Nat) : ∀ (j : Nat) (_ : all.drop j = xs) (l : List GV) (g : Nat) (H : GH) (K : GExit × St → Prop) (ws : List (List UInt8)) (o : GV)
    (_ : lget l 52 = .sl 1 (all.map fun o => .ptr id o) .exact) (_ : lget l 53 = .int .i64 all.length) (_ : lget l 54 = .int .i64 j) (_ : lget l 5 = o) (_ : App H 1 o (ws.map strG)) (_ : H.bt ≤ H.toks.length) (_ : ws.length ≤ 2 + j) (_ : H.objs[id]? = some (.cells 39 (chgC x)))
    (_ : ∀ (l' : List GV) (H' : GH) (o' : GV), lget l' 1 = lget l 1 → lget l' 4 = lget l 4 → lget l' 5 = o' → App H' 1 o' ((ws ++ xs.map (cAt x)).map strG) → H'.bt ≤ H'.toks.length → H'.objs = H.objs → K (.exit 0, ⟨⟨l', g⟩, H'⟩)),
    optW (erun T (.loop L0_script_Change) ⟨⟨l, g⟩, H⟩) K := by
  induction xs with
  | nil =>
    intro j hd l g H K ws o h52 h53 h54 h5 hA hbt hws ho he
    have hle : all.length ≤ j := by simpa using hd
    have hge : ¬ ((j : Int) < all.length) := by omega
    have hge' : ¬ (j < all.length) := by omega
    rw [run_loop]
    simp [L0_script_Change, h53, h54, hge, hge']
    refine he _ H o (by simp) (by simp) (by simp [h5]) (by simpa using hA) hbt rfl
  | cons p xs ih =>
    intro j hd l g H K ws o h52 h53 h54 h5 hA hbt hws ho he
    have hj : j < all.length := by
      rcases Nat.lt_or_ge j all.length with h1 | h1
      · exact h1
      · rw [List.drop_eq_nil_of_le h1] at hd; cases hd
    have hgv : all[j]? = some p := by
      have := congrArg (·[0]?) hd
      simpa using this
    have hd' : all.drop (j + 1) = xs := by
      have := congrArg List.tail hd
      simpa using this
    have hgd : ∀ h : j < all.length, all[j]'h = p := fun h => by rw [List.getElem?_eq_getElem h] at hgv; exact Option.some.inj hgv
    obtain ⟨hp2, hp5⟩ := hin p (List.mem_of_getElem? hgv)
    have hcell : (chgC x)[p]? = some (.str (mkB (cAt x p))) := by
      have : p = 2 ∨ p = 3 ∨ p = 4 ∨ p = 5 := by omega
      rcases this with rfl | rfl | rfl | rfl <;> rfl
    generalize hcs : chgC x = cs at hcell ho
    have hlt : (j : Int) < all.length := by omega
    have hix : gIx all.length (.int .i64 (j : Int)) = some j := by simp only [gIx]; rw [if_pos (by omega)]; simp
    have hw : IntKind.i64.wrap ((j : Int) + 1) = (j : Int) + 1 := wrap_i64' (by omega) (by omega)
    obtain ⟨o', H', hap, hA', hstep, _⟩ := append_ok (ty := 9) (bytes := 16) (x := .sl 1 [.str (mkB (cAt x p))] .exact) (ys := [.str (mkB (cAt x p))]) hA (by simp [gNews]) hbt (by simp [room]; omega) (by simp [maxLen]; omega)
    have hbt' : H'.bt ≤ H'.toks.length := hstep.btle hbt
    have hmm : ws.map strG ++ [.str (mkB (cAt x p))] = (ws ++ [cAt x p]).map strG := by simp [strG]
    rw [hmm] at hA'
    rw [run_loop, wp_seqK]
    simp [L0_script_Change, h52, h53, h54, h5, hlt, hj, hix, hgv, hgd, ho, hcell, appUnbox hA, appUnbox hA', gSetAll, hap, hw]
    refine ih (j + 1) hd' _ g H' K (ws ++ [cAt x p]) o' ?_ ?_ ?_ ?_ hA' hbt' (by simp; omega) (by rw [hstep.objs, hcs]; exact ho) ?_
    · simp [h52]
    · simp [h53]
    · simp
    · simp
    · intro l' H2 o2 f1 f4 f5 f6 f7 f8
      exact he l' H2 o2 (by rw [f1]; simp) (by rw [f4]; simp) f5 (by simpa using f6) f7 (f8.trans hstep.objs)

theorem nth_ops {k : Int} (h : 1 ≤ k ∧ k ≤ 4) : ∃ n : Nat, k = n ∧ n < 5 ∧ opsL[n]? = some (nthL opsL k) := by
  rcases op_cases h with rfl | rfl | rfl | rfl
  · exact ⟨1, rfl, by decide, rfl⟩
  · exact ⟨2, rfl, by decide, rfl⟩
  · exact ⟨3, rfl, by decide, rfl⟩
  · exact ⟨4, rfl, by decide, rfl⟩
theorem nth_els {k : Int} (h : k = 1 ∨ k = 2 ∨ k = 3 ∨ k = 4 ∨ k = 5) : ∃ n : Nat, k = n ∧ n < 6 ∧ elsL[n]? = some (nthL elsL k) := by
  rcases h with rfl | rfl | rfl | rfl | rfl
  · exact ⟨1, rfl, by decide, rfl⟩
  · exact ⟨2, rfl, by decide, rfl⟩
  · exact ⟨3, rfl, by decide, rfl⟩
  · exact ⟨4, rfl, by decide, rfl⟩
  · exact ⟨5, rfl, by decide, rfl⟩

/-- A change's sizes. -/
structure CFit (x : Chg) : Prop where
  a : x.a.length ≤ 1000
  b : x.b.length ≤ 1000
  c : x.c.length ≤ 1000
  d : x.d.length ≤ 1000
  t : x.vt.length ≤ 1000
  n1 : -9223372036854775808 ≤ x.vn
  n2 : x.vn ≤ 9223372036854775807

def chgTx (x : Chg) : List UInt8 := if x.okB then x.text else []

theorem script_Change (x : Chg) (hf : CFit x) (H : GH) : ecall T f_script_Change [chgG x] H = some (.tup [.str (mkB (chgTx x)), .bool x.okB], H) := by
  have hr := value_Right x.vk x.vn (mkB x.vt) (by rw [mkB_size]; exact hf.t) hf.n1 hf.n2
  have hs := value_String x.vk x.vn (mkB x.vt) (by rw [mkB_size]; exact hf.t) hf.n1 hf.n2
  simp only [mkB_data, mk_mkB] at hr hs
  have hel := value_Elem x.ek x.a x.b x.c x.d (by have := hf.a; omega) (by have := hf.b; omega) (by have := hf.c; omega) (by have := hf.d; omega)
  have hcl : ∀ (s : ByteArray) (b : Bool), clean H.objs.length H.toks.length 100 (.tup [.str s, .bool b]) = some (.tup [.str s, .bool b]) := fun _ _ => rfl
  have hnone : (decide (x.vk = 0) && (decide (x.vn = 0) && (decide (x.vt = []) && true))) = x.none := by
    rw [Bool.eq_iff_iff]; simp [Chg.none]
  have hle : leavesEq [.int .i64, .int .i64, .str] [.int .i64 x.vk, .int .i64 x.vn, .str (mkB x.vt)] [.int .i64 0, .int .i64 0, .str ⟨#[]⟩] = some x.none := by
    rw [← hnone]
    by_cases h1 : x.vk = 0 <;> by_cases h2 : x.vn = 0 <;> by_cases h3 : x.vt = [] <;> simp [leavesEq, h1, h2, h3]
  have hgo : ∀ o, (H.over.newObj o).objs[H.objs.length]? = some o := fun o => by simp [GH.newObj]
  apply optW.eq
  rw [ecall_1 T_script_Change rfl (by simp [F_script_Change]), wp_fin1]
  by_cases hop : 1 ≤ x.op ∧ x.op ≤ 4
  · have ho1 : ¬ x.op < 1 := by omega
    have ho4 : ¬ 4 < x.op := by omega
    cases he : elemV x.ek x.a x.b x.c x.d with
    | false =>
      have hok : x.okB = false := by simp [Chg.okB, he]
      rw [he] at hel
      simp [F_script_Change, b_script_Change, chgG, chgC, hgo, gFill, hle, ho1, ho4, hel, chgTx, hok, hcl]
    | true =>
      rw [he] at hel
      cases hv : rightV x.vk x.vn x.vt with
      | false =>
        have hok : x.okB = false := by simp [Chg.okB, hv]
        rw [hv] at hr
        simp [F_script_Change, b_script_Change, chgG, chgC, hgo, gFill, hle, ho1, ho4, hel, hr, chgTx, hok, hcl]
      | true =>
        rw [hv] at hr
        by_cases hn : x.none = decide (x.op = 3)
        · have hok : x.okB = false := by simp [Chg.okB, hn]
          simp [F_script_Change, b_script_Change, chgG, chgC, hgo, gFill, hle, ho1, ho4, hel, hr, hn, chgTx, hok, hcl]
        · have hok : x.okB = true := by
            have hb : (x.none != decide (x.op = 3)) = true := by rw [bne_iff_ne]; exact hn
            unfold Chg.okB
            rw [he, hv, hb]; simp [hop]
          have hb2 : (x.none == decide (x.op = 3)) = false := by
            cases hx : (x.none == decide (x.op = 3)) with
            | false => rfl
            | true => exact absurd (beq_iff_eq.1 hx) hn
          obtain ⟨n1, q1, q2, q3⟩ := nth_ops hop
          obtain ⟨n2, q4, q5, q6⟩ := nth_els (elem_kind he)
          have l1 : opsL.length = 5 := rfl
          have l2 : elsL.length = 6 := rfl
          have i1 : gIx 5 (.int .i64 x.op) = some n1 := by rw [q1]; simp only [gIx]; rw [if_pos (by omega)]; simp
          have i2 : gIx 6 (.int .i64 x.ek) = some n2 := by rw [q4]; simp only [gIx]; rw [if_pos (by omega)]; simp
          have g1 : ∀ h : n1 < opsL.length, opsL[n1]'h = nthL opsL x.op := fun h => by rw [List.getElem?_eq_getElem h] at q3; exact Option.some.inj q3
          have g2 : ∀ h : n2 < elsL.length, elsL[n2]'h = nthL elsL x.ek := fun h => by rw [List.getElem?_eq_getElem h] at q6; exact Option.some.inj q6
          have hpt := parts_ok (H := H.over.newObj (.cells 39 (chgC x))) (id := H.objs.length) (t := 39) _ _ _ _ _ _ _ _ _ x.ek rfl (hgo _)
          have hop' := ops_ok (H.over.newObj (.cells 39 (chgC x)))
          have hel' := elems_ok (H.over.newObj (.cells 39 (chgC x)))
          simp only [rowG] at hop' hel'
          simp only [chgC] at hpt hop' hel'
          simp [F_script_Change, b_script_Change, chgG, chgC, hgo, gFill, hle, ho1, ho4, hel, hr, hb2, hop', hel', l1, l2, i1, i2, q3, q6, g1, g2, strG, gSetAll, hpt]
          rw [wp_seqK, wp_blockK]
          have hpl : (partO x.ek).length ≤ 10 ∧ ∀ o ∈ partO x.ek, 2 ≤ o ∧ o ≤ 5 := by
            unfold partO
            split
            · decide
            · split
              · decide
              · split <;> decide
          have hct := (chg_text10 hok).2
          refine chg_loop x H.objs.length (partO x.ek) hpl.1 hpl.2 (partO x.ek) 0 rfl _ _ _ _ [nthL opsL x.op, nthL elsL x.ek] (.sl 1 [strG (nthL opsL x.op), strG (nthL elsL x.ek)] .exact) ?_ ?_ ?_ ?_ (.exact _) (Nat.le_refl _) (by simp) (hgo _) ?_
          · simp
          · simp
          · simp
          · simp [strG]
          · intro l' H' o' e1 e4 e5 hA hbt hobj
            simp at e1 e4
            have hld : H'.objs[H.objs.length]? = some (.cells 39 (chgC x)) := by rw [hobj]; exact hgo _
            rw [partO_at] at hA
            simp only [chgC] at hld
            cases hxn : x.none with
            | true =>
              have hj := join_ok o' _ hA.elems [32] (by have := parts_len (k := x.ek) (a := x.a) (b := x.b) (c := x.c) (d := x.d); simp; omega) (by simp only [Chg.text, hxn] at hct; simp at hct ⊢; omega) H'
              have e32 : mkB [32] = ⟨#[32]⟩ := rfl
              rw [e32] at hj
              simp [e1, e4, e5, hxn, hj, hcl, chgTx, hok, appUnbox hA, hA.ok]
              simp [Chg.text, hxn]
            | false =>
              have hpl2 := parts_len (k := x.ek) (a := x.a) (b := x.b) (c := x.c) (d := x.d)
              obtain ⟨o2, H2, hap, hA2, hstep, _⟩ := append_ok (ty := 9) (bytes := 16) (x := .sl 1 [.str (mkB (txtV x.vk x.vn x.vt))] .exact) (ys := [.str (mkB (txtV x.vk x.vn x.vt))]) hA (by simp [gNews]) hbt (by simp [room]; omega) (by simp [maxLen]; omega)
              have hmm : ([nthL opsL x.op, nthL elsL x.ek] ++ partsL x.ek x.a x.b x.c x.d).map strG ++ [.str (mkB (txtV x.vk x.vn x.vt))] = (nthL opsL x.op :: nthL elsL x.ek :: (partsL x.ek x.a x.b x.c x.d ++ [txtV x.vk x.vn x.vt])).map strG := by simp [strG]
              rw [hmm] at hA2
              have hj := join_ok o2 _ hA2.elems [32] (by simp; omega) (by simp only [Chg.text, hxn] at hct; simp at hct ⊢; omega) H2
              have e32 : mkB [32] = ⟨#[32]⟩ := rfl
              rw [e32] at hj
              simp [e1, e4, e5, hxn, hj, hcl, chgTx, hok, appUnbox hA, hA.ok, hld, hs, gSetAll, hap, appUnbox hA2, hA2.ok]
              simp [Chg.text, hxn]
  · have hok : x.okB = false := by simp [Chg.okB, hop]
    by_cases h1 : x.op < 1
    · simp [F_script_Change, b_script_Change, chgG, chgC, hgo, gFill, hle, h1, chgTx, hok, hcl]
    · have h4 : 4 < x.op := by omega
      simp [F_script_Change, b_script_Change, chgG, chgC, hgo, gFill, hle, h1, h4, chgTx, hok, hcl]
end Go.Proofs.YtalhcaadpgadkaaDoor
