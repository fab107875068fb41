/- Own work, over the shadow machine: JSpec13. -/
import Derived.Test.YtalhcaadpgadkaaDoorSp12
set_option linter.all false
namespace Go.Proofs.YtalhcaadpgadkaaDoor
open Go.Sh
set_option maxRecDepth 100000

/-! ## A step read -/

theorem takeN_k : ∀ (js : List Nat), (∀ j ∈ js, 1 ≤ j ∧ j ≤ 5) → ∀ (x : Stp) (l : List UInt8) (bad : Bool), (takeN js x l bad).1.k = x.k ∧ (takeN js x l bad).1.chs = x.chs ∧ (takeN js x l bad).1.by_ = x.by_
  | [], _, x, l, bad => ⟨rfl, rfl, rfl⟩
  | j :: js, h, x, l, bad => by
    obtain ⟨h1, h5⟩ := h j (by simp)
    have hj : j = 1 ∨ j = 2 ∨ j = 3 ∨ j = 4 ∨ j = 5 := by omega
    have ih := takeN_k js (fun i hi => h i (by simp [hi])) (x.setN j (numO (w1 l)).1) (r1 l) (bad || (numO (w1 l)).2)
    simp only [takeN]
    rcases hj with rfl | rfl | rfl | rfl | rfl <;> exact ih

theorem takeN_len : ∀ (js : List Nat) (x : Stp) (l : List UInt8) (bad : Bool), (takeN js x l bad).2.1.length ≤ l.length
  | [], x, l, bad => Nat.le_refl _
  | j :: js, x, l, bad => by
    simp only [takeN]
    exact Nat.le_trans (takeN_len js _ _ _) (r1_len l)

section
variable {O : List GObj} {rid : Nat} (hr : rid < O.length) (rest : List UInt8) (bad : Bool) (x : Stp) (v : GV) (L : List UInt8) (tk : List Nat) (bo bt : Nat)
omit hr in
theorem rM_word (hb : bo ≤ O.length) (hL : L.length ≤ 4000000) : ecall T f_script_word [.ptr (O.length + 1) 0] (rM O rid rest bad x v L tk bo bt) = some (.str (mkB (w1 L)), rM O rid rest bad x v (r1 L) tk bo bt) := by
  rw [word_ok hL (by simp; omega) (rM_l rest bad x v L tk bo bt)]
  simp only [rM, Option.some.injEq, Prod.mk.injEq, true_and]
  congr 1
  rw [List.set_append_right _ _ (by simp)]
  simp
end

theorem sp_len (x : Stp) (v : GV) : (stpC x v).length = 8 := rfl
theorem sp_take (x : Stp) (v : GV) : List.take 8 (stpC x v) = stpC x v := rfl
theorem sp_k (x : Stp) (v : GV) : ∀ h : 0 < (stpC x v).length, (stpC x v)[0]'h = .int .i64 x.k := fun _ => rfl
theorem sp_k0 (x : Stp) (v : GV) : (stpC x v)[0]? = some (.int .i64 x.k) := rfl
theorem sp_one (x : Stp) (v : GV) (h : v.one = true) : (stpC x v).all GV.one = true := by simp [stpC, h]

theorem nam_range (w : List UInt8) : idxL w namL 0 < 12 := by
  rcases idxL_range w namL 0 with e | ⟨_, e2, _⟩
  · omega
  · have : namL.length = 12 := rfl
    omega

/-- What a step that is read leaves. -/
structure Got (O : List GObj) (rid : Nat) (tk : List Nat) (bo bt : Nat) (t : Stp × List UInt8 × Bool) (r : GV × GH) : Prop where
  ex : ∃ v' S L tk', r = (stpG t.1 v', ⟨O.set rid (.cells 52 [.str (mkB t.2.1), .bool t.2.2]) ++ [.cells 33 S, .cells 9 [.str (mkB L)]], tk', bo, bt⟩) ∧ Elems 9 v' (t.1.chs.map chgG) ∧ Keep tk.length tk tk'

set_option maxHeartbeats 2000000 in
theorem reader_step (O : List GObj) (rid : Nat) (rest : List UInt8) (bad : Bool) (tk : List Nat) (bo bt : Nat) (hr : rid < O.length) (hb : bo ≤ rid) (hbt : bt ≤ tk.length) (hO : O[rid]? = some (.cells 52 [.str (mkB rest), .bool bad])) (hsh : shortL rest) (hrl : rest.length ≤ 4000000) :
    optW (ecall T f_script_reader_step [.ptr rid 0] ⟨O, tk, bo, bt⟩) (Got O rid tk bo bt (stepR rest bad)) := by
  have hlen := lineR_len rest bad
  have hline := line_ok (H := ⟨O ++ [.cells 33 [.int .i64 0, .int .i64 0, .int .i64 0, .int .i64 0, .int .i64 0, .int .i64 0, .int .u8 0, .nilsl]], tk, bo, bt⟩) (id := rid) hrl hb (by show (O ++ _)[rid]? = _; rw [List.getElem?_append_left hr]; exact hO)
  have hsa : ∀ o z, (O ++ [z]).set rid o = O.set rid o ++ [z] := fun o z => List.set_append_left _ _ hr
  have hsh' := hsh.next bad
  have h1000 := hsh.line bad
  have key : stepR rest bad = if idxL (w1 (lineR rest bad).1) namL 0 < 1 then (⟨idxL (w1 (lineR rest bad).1) namL 0, 0, 0, 0, 0, 0, 0, []⟩, (lineR rest bad).2.1, true) else
      stepTu (takeN (ownL (idxL (w1 (lineR rest bad).1) namL 0)) ⟨idxL (w1 (lineR rest bad).1) namL 0, 0, 0, 0, 0, 0, 0, []⟩ (r1 (lineR rest bad).1) (lineR rest bad).2.2).1 (takeN (ownL (idxL (w1 (lineR rest bad).1) namL 0)) ⟨idxL (w1 (lineR rest bad).1) namL 0, 0, 0, 0, 0, 0, 0, []⟩ (r1 (lineR rest bad).1) (lineR rest bad).2.2).2.1 (lineR rest bad).2.1 (takeN (ownL (idxL (w1 (lineR rest bad).1) namL 0)) ⟨idxL (w1 (lineR rest bad).1) namL 0, 0, 0, 0, 0, 0, 0, []⟩ (r1 (lineR rest bad).1) (lineR rest bad).2.2).2.2 := rfl
  rw [key]
  obtain ⟨w, hw1⟩ : ∃ w, (lineR rest bad).1 = w := ⟨_, rfl⟩
  obtain ⟨rest', hw2⟩ : ∃ r, (lineR rest bad).2.1 = r := ⟨_, rfl⟩
  obtain ⟨bad', hw3⟩ : ∃ b, (lineR rest bad).2.2 = b := ⟨_, rfl⟩
  rw [hw1, hw2, hw3] at hline ⊢
  rw [hw1, hw2] at hlen
  rw [hw2] at hsh'
  rw [hw1] at h1000
  simp only [hsa] at hline
  obtain ⟨k, hk⟩ : ∃ k, idxL (w1 w) namL 0 = k := ⟨_, rfl⟩
  have hidx := fun H => index_ok namL .exact (w1 w) (by decide) H
  rw [hk] at hidx ⊢
  have hnm := fun H => names_ok H
  have hbo : bo ≤ O.length := by omega
  have hbo1 : bo ≤ O.length + 1 := by omega
  have hfold : (⟨O.set rid (.cells 52 [.str (mkB rest'), .bool bad']) ++ [.cells 33 [.int .i64 0, .int .i64 0, .int .i64 0, .int .i64 0, .int .i64 0, .int .i64 0, .int .u8 0, .nilsl], .cells 9 [.str (mkB w)]], tk, bo, bt⟩ : GH) = rM O rid rest' bad' ⟨0, 0, 0, 0, 0, 0, 0, []⟩ .nilsl w tk bo bt := rfl
  have hs9 : setPart [GV.str ⟨#[]⟩] 0 [.str (mkB w)] = some [.str (mkB w)] := rfl
  have hwd := rM_word (O := O) (rid := rid) rest' bad' ⟨0, 0, 0, 0, 0, 0, 0, []⟩ .nilsl w tk bo bt hbo (by omega)
  have hs0 : setPart (stpC ⟨0, 0, 0, 0, 0, 0, 0, []⟩ .nilsl) 0 [.int .i64 k] = some (stpC ⟨k, 0, 0, 0, 0, 0, 0, []⟩ .nilsl) := rfl
  have gs0 := rM_s (O := O) (rid := rid) rest' bad' ⟨0, 0, 0, 0, 0, 0, 0, []⟩ .nilsl (r1 w) tk bo bt
  have ss0 := rM_sets (O := O) (rid := rid) rest' bad' ⟨0, 0, 0, 0, 0, 0, 0, []⟩ .nilsl (r1 w) tk bo bt ⟨k, 0, 0, 0, 0, 0, 0, []⟩ .nilsl
  have gs1 := rM_s (O := O) (rid := rid) rest' bad' ⟨k, 0, 0, 0, 0, 0, 0, []⟩ .nilsl (r1 w) tk bo bt
  rw [ecall_0 T_script_reader_step rfl (by simp [F_script_reader_step]), wp_fin1]
  simp only [F_script_reader_step, b_script_reader_step]
  by_cases hk1 : k < 1
  · rw [if_pos hk1]
    have gr := rM_r (O := O) hr rest' bad' ⟨k, 0, 0, 0, 0, 0, 0, []⟩ .nilsl (r1 w) tk bo bt
    have sr := rM_setr (O := O) hr rest' bad' ⟨k, 0, 0, 0, 0, 0, 0, []⟩ .nilsl (r1 w) tk bo bt rest' true
    have gs2 := rM_s (O := O) (rid := rid) rest' true ⟨k, 0, 0, 0, 0, 0, 0, []⟩ .nilsl (r1 w) tk bo bt
    have ss2 := rM_sets (O := O) (rid := rid) rest' true ⟨k, 0, 0, 0, 0, 0, 0, []⟩ .nilsl (r1 w) tk bo bt ⟨k, 0, 0, 0, 0, 0, 0, []⟩ .nilsl
    have hb1 : setPart [GV.str (mkB rest'), .bool bad'] 1 [.bool true] = some [.str (mkB rest'), .bool true] := rfl
    have h8 : setPart (stpC ⟨k, 0, 0, 0, 0, 0, 0, []⟩ .nilsl) 0 (stpC ⟨k, 0, 0, 0, 0, 0, 0, []⟩ .nilsl) = some (stpC ⟨k, 0, 0, 0, 0, 0, 0, []⟩ .nilsl) := rfl
    have hall := sp_one ⟨k, 0, 0, 0, 0, 0, 0, []⟩ .nilsl rfl
    simp [GH.newObj, hline, hs9, hfold, hnm, hwd, hidx, gs0, hs0, hbo, hbo1, ss0, gs1, sp_k0, sp_k, sp_len, hk1, gr, hb, hb1, sr, gs2, sp_take, hall, h8, ss2]
    exact .mk ⟨.nilsl, stpC ⟨k, 0, 0, 0, 0, 0, 0, []⟩ .nilsl, r1 w, tk, rfl, .nil, .refl (Nat.le_refl _)⟩
  · rw [if_neg hk1]
    have hkr : k < 12 := by rw [← hk]; exact nam_range _
    have hown := own_ok (H := rM O rid rest' bad' ⟨k, 0, 0, 0, 0, 0, 0, []⟩ .nilsl (r1 w) tk bo bt) (id := O.length) (t := 33) k _ _ _ _ _ _ _ gs1
    obtain ⟨ol, oi⟩ := ownL_in k
    simp [GH.newObj, hline, hs9, hfold, hnm, hwd, hidx, gs0, hs0, hbo, hbo1, ss0, gs1, sp_k0, sp_k, sp_len, hk1, hown]
    rw [wp_seqK, wp_blockK]
    refine takeN_loop O rid hr rest' .nilsl tk bo bt hb (ownL k) ol oi (ownL k) 0 rfl _ _ _ ⟨k, 0, 0, 0, 0, 0, 0, []⟩ (r1 w) bad' (by have := r1_len w; omega) ?_ ?_ ?_ ?_ ?_ ?_ ?_
    · simp
    · simp
    · simp
    · simp
    · simp
    · simp
    · intro l' f0 f2 f3
      have htk := takeN_k (ownL k) oi ⟨k, 0, 0, 0, 0, 0, 0, []⟩ (r1 w) bad'
      have htl := takeN_len (ownL k) ⟨k, 0, 0, 0, 0, 0, 0, []⟩ (r1 w) bad'
      have hr1 := r1_len w
      obtain ⟨x1, hx1⟩ : ∃ x, (takeN (ownL k) ⟨k, 0, 0, 0, 0, 0, 0, []⟩ (r1 w) bad').1 = x := ⟨_, rfl⟩
      obtain ⟨l1, hl1⟩ : ∃ x, (takeN (ownL k) ⟨k, 0, 0, 0, 0, 0, 0, []⟩ (r1 w) bad').2.1 = x := ⟨_, rfl⟩
      obtain ⟨bad1, hb1⟩ : ∃ x, (takeN (ownL k) ⟨k, 0, 0, 0, 0, 0, 0, []⟩ (r1 w) bad').2.2 = x := ⟨_, rfl⟩
      rw [hx1] at htk
      rw [hl1] at htl
      rw [hx1, hl1, hb1]
      obtain ⟨xk, xc, xb⟩ := htk
      simp only at xk xc xb
      have hto : ∀ H, ecall T f_script_turned [.int .i64 x1.k] H = some (.bool (turnB x1.k), H) := fun H => turned_ok x1.k H
      have gsx := rM_s (O := O) (rid := rid) rest' bad1 x1 .nilsl l1 tk bo bt
      have hnum := rM_number hr rest' bad1 x1 .nilsl l1 tk bo bt hb (by omega)
      unfold stepTu
      by_cases ht : turnB x1.k = true
      · have hk11 : x1.k ≠ 1 := by intro e; rw [e] at ht; revert ht; decide
        rw [if_pos ht]
        obtain ⟨n1, hn1⟩ : ∃ n, (numO (w1 l1)).1 = n := ⟨_, rfl⟩
        obtain ⟨b2, hb2⟩ : ∃ n, (bad1 || (numO (w1 l1)).2) = n := ⟨_, rfl⟩
        simp only [hn1, hb2] at hnum ⊢
        simp only [stepBc, if_neg hk11]
        have gr2 := rM_r (O := O) hr rest' b2 x1 .nilsl (r1 l1) tk bo bt
        have sr2 := fun c => rM_setr (O := O) hr rest' b2 x1 .nilsl (r1 l1) tk bo bt rest' c
        have hsb : ∀ b c, setPart [GV.str (mkB rest'), .bool b] 1 [.bool c] = some [.str (mkB rest'), .bool c] := fun _ _ => rfl
        have gs2 := fun c => rM_s (O := O) (rid := rid) rest' c x1 .nilsl (r1 l1) tk bo bt
        have hs6 : setPart (stpC x1 .nilsl) 6 [.int .u8 (IntKind.u8.wrap n1)] = some (stpC { x1 with by_ := Go.Sh.byteOf n1 } .nilsl) := rfl
        have ss2 := fun c => rM_sets (O := O) (rid := rid) rest' c x1 .nilsl (r1 l1) tk bo bt { x1 with by_ := Go.Sh.byteOf n1 } .nilsl
        have gs3 := fun c => rM_s (O := O) (rid := rid) rest' c { x1 with by_ := Go.Sh.byteOf n1 } .nilsl (r1 l1) tk bo bt
        have ss3 := fun c => rM_sets (O := O) (rid := rid) rest' c { x1 with by_ := Go.Sh.byteOf n1 } .nilsl (r1 l1) tk bo bt { x1 with by_ := Go.Sh.byteOf n1 } .nilsl
        have h8 : setPart (stpC { x1 with by_ := Go.Sh.byteOf n1 } .nilsl) 0 (stpC { x1 with by_ := Go.Sh.byteOf n1 } .nilsl) = some (stpC { x1 with by_ := Go.Sh.byteOf n1 } .nilsl) := rfl
        have hall := sp_one { x1 with by_ := Go.Sh.byteOf n1 } .nilsl rfl
        have hEl : ∀ c, Got O rid tk bo bt ({ x1 with by_ := Go.Sh.byteOf n1 }, rest', c) (stpG { x1 with by_ := Go.Sh.byteOf n1 } .nilsl, rM O rid rest' c { x1 with by_ := Go.Sh.byteOf n1 } .nilsl (r1 l1) tk bo bt) := fun c => .mk ⟨.nilsl, stpC { x1 with by_ := Go.Sh.byteOf n1 } .nilsl, r1 l1, tk, rfl, by simp only [xc]; exact .nil, .refl (Nat.le_refl _)⟩
        simp only [stpG] at hEl
        cases b2 with
        | true =>
          simp [f0, f2, f3, gsx, sp_k0, sp_k, sp_len, sp_take, hto, ht, hnum, gr2, sr2, hsb, gs2, hs6, ss2, gs3, ss3, h8, hall, hk11, hb, hbo, hbo1]
          exact hEl true
        | false =>
          by_cases hneg : n1 < 0
          · simp [f0, f2, f3, gsx, sp_k0, sp_k, sp_len, sp_take, hto, ht, hnum, gr2, sr2, hsb, gs2, hs6, ss2, gs3, ss3, h8, hall, hk11, hb, hbo, hbo1, hneg]
            exact hEl true
          · by_cases hbig : 255 < n1
            · simp [f0, f2, f3, gsx, sp_k0, sp_k, sp_len, sp_take, hto, ht, hnum, gr2, sr2, hsb, gs2, hs6, ss2, gs3, ss3, h8, hall, hk11, hb, hbo, hbo1, hneg, hbig]
              exact hEl true
            · simp [f0, f2, f3, gsx, sp_k0, sp_k, sp_len, sp_take, hto, ht, hnum, gr2, sr2, hsb, gs2, hs6, ss2, gs3, ss3, h8, hall, hk11, hb, hbo, hbo1, hneg, hbig]
              exact hEl false
      · have ht' : turnB x1.k = false := by cases h : turnB x1.k with | false => rfl | true => exact absurd h ht
        rw [if_neg ht]
        have ss3 := rM_sets (O := O) (rid := rid) rest' bad1 x1 .nilsl l1 tk bo bt x1 .nilsl
        have h8 : ∀ v, setPart (stpC x1 v) 0 (stpC x1 v) = some (stpC x1 v) := fun _ => rfl
        have hall := sp_one x1 .nilsl rfl
        by_cases hk11 : x1.k = 1
        · simp only [stepBc, if_pos hk11]
          have ht1 : turnB 1 = false := by decide
          have hto1 : ∀ H, ecall T f_script_turned [.int .i64 1] H = some (.bool false, H) := fun H => by have := turned_ok 1 H; rwa [ht1] at this
          obtain ⟨n1, hn1⟩ : ∃ n, (numO (w1 l1)).1 = n := ⟨_, rfl⟩
          obtain ⟨b2, hb2⟩ : ∃ n, (bad1 || (numO (w1 l1)).2) = n := ⟨_, rfl⟩
          simp only [hn1, hb2] at hnum ⊢
          have hmin : (if 64 < n1 then 64 else n1) = min n1 64 := by split <;> omega
          simp [f0, f2, f3, gsx, sp_k0, sp_k, sp_len, hk11, hto1, hnum, hb, hbo, hbo1, hmin]
          rw [wp_seqK, wp_blockK]
          refine takeC_loop O rid hr bo bt hb x1 (r1 l1) (min n1 64) (by omega) tk.length hbt (min n1 64).toNat 0 (by simp) (by omega) rest' b2 [] .nilsl tk _ _ _ hsh' (by omega) (by simp) ?_ ?_ ?_ ?_ .nil (Nat.le_refl _) (fun t h => by cases h) ?_
          · simp
          · simp
          · simp [f0]
          · simp [f2]
          · intro l2 g2 v' tk' e2 hA hkeep
            have gs4 := rM_s (O := O) (rid := rid) (takeC (min n1 64).toNat rest' b2 []).2.1 (takeC (min n1 64).toNat rest' b2 []).2.2 x1 v' (r1 l1) tk' bo bt
            have ss4 := rM_sets (O := O) (rid := rid) (takeC (min n1 64).toNat rest' b2 []).2.1 (takeC (min n1 64).toNat rest' b2 []).2.2 x1 v' (r1 l1) tk' bo bt x1 v'
            have hall4 := sp_one x1 v' hA.elems.one
            simp [e2, gs4, sp_len, sp_take, hall4, h8, ss4, hbo]
            refine .mk ⟨v', stpC x1 v', r1 l1, tk', ?_, hA.elems, hkeep⟩
            simp [stpG, stpC, rM, hk11]
        · simp only [stepBc, if_neg hk11]
          simp [f0, f2, f3, gsx, sp_k0, sp_k, sp_len, sp_take, hto, ht', hk11, h8, hall, ss3, hbo]
          exact .mk ⟨.nilsl, stpC x1 .nilsl, l1, tk, rfl, by simp only [xc]; exact .nil, .refl (Nat.le_refl _)⟩
end Go.Proofs.YtalhcaadpgadkaaDoor
