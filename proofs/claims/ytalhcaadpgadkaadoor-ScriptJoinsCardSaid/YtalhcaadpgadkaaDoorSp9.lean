/- Own work, over the shadow machine: JSpec9. -/
import Derived.Test.YtalhcaadpgadkaaDoorSp8
set_option linter.all false
namespace Go.Proofs.YtalhcaadpgadkaaDoor
open Go.Sh
set_option maxRecDepth 100000

theorem nth_nam {k : Int} (h : 1 ≤ k ∧ k ≤ 11) : ∃ n : Nat, k = n ∧ n < 12 ∧ namL[n]? = some (nthL namL k) := by
  rcases kind_cases h with rfl | rfl | rfl | rfl | rfl | rfl | rfl | rfl | rfl | rfl | rfl
  · exact ⟨1, rfl, by decide, rfl⟩
  · exact ⟨2, rfl, by decide, rfl⟩
  · exact ⟨3, rfl, by decide, rfl⟩
  · exact ⟨4, rfl, by decide, rfl⟩
  · exact ⟨5, rfl, by decide, rfl⟩
  · exact ⟨6, rfl, by decide, rfl⟩
  · exact ⟨7, rfl, by decide, rfl⟩
  · exact ⟨8, rfl, by decide, rfl⟩
  · exact ⟨9, rfl, by decide, rfl⟩
  · exact ⟨10, rfl, by decide, rfl⟩
  · exact ⟨11, rfl, by decide, rfl⟩

def stpTx (x : Stp) : List UInt8 := if x.okB then x.text else []

theorem itoa_max (n : Int) (h1 : -9223372036854775808 ≤ n) (h2 : n ≤ 9223372036854775807) : (Lib.itoa n).length ≤ 30 := by
  unfold Lib.itoa
  split
  · have := nDigits_le 20 n.natAbs (by omega) (by omega)
    simp [Lib.decDigits_length]; omega
  · have := nDigits_le 20 n.toNat (by omega) (by omega)
    simp [Lib.decDigits_length]; omega

theorem join_len (x : UInt8) (B : Nat) (ws : List (List UInt8)) (h : ∀ w ∈ ws, w.length ≤ B) : (Lib.join ws [x]).length ≤ ws.length * (B + 1) := by
  cases ws with
  | nil => simp [Lib.join_nil]
  | cons w ws =>
    rw [join_flat]
    have h1 := h w (by simp)
    have h2 := flat_len x B ws (fun v hv => h v (by simp [hv]))
    simp only [List.length_append, List.length_cons, Nat.add_mul, Nat.one_mul]
    omega

theorem words_len (x : Stp) (hf : SFit x) (hk : 1 ≤ x.k ∧ x.k ≤ 11) (hc : x.chs.length ≤ 100000) : x.words.length ≤ 6 ∧ (Lib.join x.words [32]).length ≤ 200 := by
  have h1 : x.words.length ≤ 6 := by
    have := (ownL_in x.k).1
    simp only [Stp.words, Stp.tail, List.length_cons, List.length_append, List.length_map]
    split <;> split <;> simp <;> omega
  refine ⟨h1, ?_⟩
  have h2 := join_len 32 30 x.words (fun w hw => by
    simp only [Stp.words, Stp.tail, List.mem_cons, List.mem_append, List.mem_map] at hw
    rcases hw with rfl | ⟨j, hj, rfl⟩ | hw | hw
    · have := (nam_word hk).2.2.2; omega
    · obtain ⟨a, b⟩ := (ownL_in x.k).2 j hj
      obtain ⟨n1, n2⟩ := num_range hf a b
      exact itoa_max _ n1 n2
    · split at hw
      · simp at hw; subst hw; exact itoa_max _ (by have := hf.b1; omega) (by have := hf.b2; omega)
      · cases hw
    · split at hw
      · simp at hw; subst hw; exact itoa_max _ (by omega) (by omega)
      · cases hw)
  have : x.words.length * 31 ≤ 6 * 31 := Nat.mul_le_mul h1 (Nat.le_refl _)
  omega

set_option maxHeartbeats 2000000 in
theorem script_step (x : Stp) (hf : SFit x) (v : GV) (hv : Elems 9 v (x.chs.map chgG)) (hfit : ∀ c ∈ x.chs, CFit c) (H : GH) : ecall T f_script_step [stpG x v] H = some (.tup [.str (mkB (stpTx x)), .bool x.okB], H) := by
  have hlb : ∀ (call : Nat → List GV → GH → Option (GV × GH)) (l : List GV) (g : Nat) (H : GH), geff call .lensl [v] ⟨l, g⟩ H = some ⟨.int .i64 (x.chs.map chgG).length, none, H, g⟩ := hv.len
  have hub : ∀ t, unbox t v = v := elemsUnbox hv
  have hvok := hv.ok
  have hone := hv.one
  have hcel := hv.cells
  have hpl := plain_ok x hf v hv
  have hcl : ∀ (s : ByteArray) (b : Bool), clean H.objs.length H.toks.length 100 (.tup [.str s, .bool b]) = some (.tup [.str s, .bool b]) := fun _ _ => rfl
  have hnm := fun H => names_ok H
  simp only [rowG] at hnm
  have l1 : namL.length = 12 := rfl
  have b1 := hf.b1; have b2 := hf.b2
  have vb : IntKind.i64.wrap x.by_ = x.by_ := wrap_i64' (by omega) (by omega)
  apply optW.eq
  rw [ecall_1 T_script_step rfl (by simp [F_script_step]), wp_fin1]
  by_cases hk1 : x.k < 1
  · have hok : x.okB = false := by
      have : ¬ (1 ≤ x.k ∧ x.k ≤ 11) := by omega
      simp [Stp.okB, this]
    simp [F_script_step, b_script_step, stpG, stpC, GH.newObj, hk1, hvok, hone, hcel, hcl, stpTx, hok]
  · by_cases hk2 : 12 ≤ x.k
    · have hok : x.okB = false := by
        have : ¬ (1 ≤ x.k ∧ x.k ≤ 11) := by omega
        simp [Stp.okB, this]
      simp [F_script_step, b_script_step, stpG, stpC, GH.newObj, hk1, hk2, hnm, l1, hvok, hone, hcel, hcl, stpTx, hok]
    · have hk : 1 ≤ x.k ∧ x.k ≤ 11 := by omega
      simp only [stpG, stpC] at hpl
      cases hp : x.plainB with
      | false =>
        have hok : x.okB = false := by simp [Stp.okB, hp]
        rw [hp] at hpl
        simp [F_script_step, b_script_step, stpG, stpC, GH.newObj, hk1, hk2, hnm, l1, hpl, hvok, hone, hcel, hcl, stpTx, hok]
      | true =>
        rw [hp] at hpl
        have hch : x.chs.length ≤ 64 := by
          simp only [Stp.plainB, Bool.and_eq_true, decide_eq_true_eq] at hp
          rcases hp.2.2 with h | h
          · exact h.2
          · omega
        obtain ⟨hwl, hwj⟩ := words_len x hf hk (by omega)
        obtain ⟨n1, q1, q2, q3⟩ := nth_nam hk
        have i1 : gIx 12 (.int .i64 x.k) = some n1 := by rw [q1]; simp only [gIx]; rw [if_pos (by omega)]; simp
        have g1 : ∀ h : n1 < namL.length, namL[n1]'h = nthL namL x.k := fun h => by rw [List.getElem?_eq_getElem h] at q3; exact Option.some.inj q3
        have hown := own_ok (H := ⟨H.objs ++ [.cells 33 (stpC x v)], H.toks, H.objs.length, H.toks.length⟩) (id := H.objs.length) (t := 33) x.k (.int .i64 x.r) (.int .i64 x.s) (.int .i64 x.i) (.int .i64 x.kp) (.int .i64 x.at_) (.int .u8 x.by_) v (by simp [stpC])
        simp only [stpC] at hown
        simp [F_script_step, b_script_step, stpG, stpC, GH.newObj, hk1, hk2, hnm, l1, hpl, hvok, hone, hcel, i1, q3, g1, strG, gSetAll, hown]
        rw [wp_seqK, wp_blockK]
        have hto : ∀ H, ecall T f_script_turned [.int .i64 x.k] H = some (.bool (turnB x.k), H) := fun H => turned_ok x.k H
        obtain ⟨ol, oi⟩ := ownL_in x.k
        refine own_loop x hf v H.objs.length (ownL x.k) ol oi (ownL x.k) 0 rfl _ _ _ _ [nthL namL x.k] (.sl 1 [strG (nthL namL x.k)] .exact) ?_ ?_ ?_ ?_ (.exact _) (Nat.le_refl _) (by simp) (by simp [stpC]) ?_ ?_
        · simp
        · simp
        · simp
        · simp [strG]
        · intro l' H' o' e0 e1 e4 hA hbt hobj
          simp at e1
          have hld : H'.objs[H.objs.length]? = some (.cells 33 (stpC x v)) := by rw [hobj]; simp [stpC]
          simp only [stpC] at hld
          by_cases ht : turnB x.k = true
          · have hk11 : x.k ≠ 1 := by intro e; rw [e] at ht; revert ht; decide
            have hit := fun H => itoa_lib x.by_ (by omega) (by omega) H
            simp only [mk_mkB] at hit
            obtain ⟨o3, H3, hap, hA3, hstep, _⟩ := append_ok (ty := 9) (bytes := 16) (x := .sl 1 [.str (mkB (Lib.itoa x.by_))] .exact) (ys := [.str (mkB (Lib.itoa x.by_))]) hA (by simp [gNews]) hbt (by simp [room]; omega) (by simp [maxLen]; omega)
            have hbt3 : H3.bt ≤ H3.toks.length := hstep.btle hbt
            have hmm : ([nthL namL x.k] ++ (ownL x.k).map (fun p => Lib.itoa (x.num p))).map strG ++ [.str (mkB (Lib.itoa x.by_))] = x.words.map strG := by simp [Stp.words, Stp.tail, ht, hk11, strG]
            rw [hmm] at hA3
            have hld3 : H3.objs[H.objs.length]? = some (.cells 33 (stpC x v)) := by rw [hstep.objs, hobj]; simp [stpC]
            simp only [stpC] at hld3
            have hj := join_ok o3 x.words hA3.elems [32] (by omega) (by omega) H3
            have e32 : mkB [32] = ⟨#[32]⟩ := rfl
            rw [e32] at hj
            simp [e1, e4, hld, hto, ht, hit, vb, appUnbox hA, hA.ok, gSetAll, hap, appUnbox hA3, hA3.ok, hld3, hk11, hub, hvok, hlb, hj, gSetAll]
            rw [wp_seqK, wp_blockK]
            refine chs_loop x.chs hfit (by omega) v hv x.chs 0 rfl _ _ _ _ [Lib.join x.words [32]] (.sl 1 [strG (Lib.join x.words [32])] .exact) ?_ ?_ ?_ ?_ (.exact _) hbt3 (by simp) ?_ ?_
            · simp [hub]
            · simp
            · simp
            · simp [strG]
            · intro l2 g2 H2 o2 f0 f7 hA2 hbt2 hobj2
              have hok : x.okB = true := by
                unfold Stp.okB
                rw [hp, e0, f0]; simp [hk]
              have hln : [Lib.join x.words [32]] ++ x.chs.map Chg.text = x.lines := rfl
              rw [hln] at hA2
              have hll : x.lines.length ≤ 65 := by rw [← hln]; simp; omega
              have hjl := join_len 10 300 x.lines (fun w hw => by
                rw [← hln] at hw
                rcases List.mem_append.1 hw with hw | hw
                · simp at hw; subst hw; omega
                · obtain ⟨c, hc, rfl⟩ := List.mem_map.1 hw
                  exact (chg_text10 (List.all_eq_true.1 f0 c hc)).2)
              have hj2l : (Lib.join x.lines [10]).length ≤ 20000 := by
                have : x.lines.length * 301 ≤ 65 * 301 := Nat.mul_le_mul hll (Nat.le_refl _)
                omega
              have hj2 := join_ok o2 x.lines hA2.elems [10] (by omega) (by omega) H2
              have e10 : mkB [10] = ⟨#[10]⟩ := rfl
              rw [e10] at hj2
              have hcat : gStr .add (mkB (Lib.join x.lines [10])) ⟨#[10]⟩ = some (.str (mkB (Lib.join x.lines [10] ++ [10]))) := catK (by simp; omega)
              simp [f7, appUnbox hA2, hA2.ok, hj2, hcat, hcl, stpTx, hok]
              simp [Stp.text]
            · intro l2 g2 H2 f0 f2 f3
              have hok : x.okB = false := by
                unfold Stp.okB
                rw [f0]; simp
              simp [f2, f3, hcl, stpTx, hok]
          · have ht' : turnB x.k = false := by cases h : turnB x.k with | false => rfl | true => exact absurd h ht
            by_cases hk11 : x.k = 1
            · have hit := fun H => itoa_lib (x.chs.length : Int) (by omega) (by omega) H
              simp only [mk_mkB] at hit
              obtain ⟨o3, H3, hap, hA3, hstep, _⟩ := append_ok (ty := 9) (bytes := 16) (x := .sl 1 [.str (mkB (Lib.itoa (x.chs.length : Int)))] .exact) (ys := [.str (mkB (Lib.itoa (x.chs.length : Int)))]) hA (by simp [gNews]) hbt (by simp [room]; omega) (by simp [maxLen]; omega)
              have hbt3 : H3.bt ≤ H3.toks.length := hstep.btle hbt
              have hmm : ([nthL namL x.k] ++ (ownL x.k).map (fun p => Lib.itoa (x.num p))).map strG ++ [.str (mkB (Lib.itoa (x.chs.length : Int)))] = x.words.map strG := by simp [Stp.words, Stp.tail, ht', hk11, strG]; try decide
              rw [hmm] at hA3
              have hld3 : H3.objs[H.objs.length]? = some (.cells 33 (stpC x v)) := by rw [hstep.objs, hobj]; simp [stpC]
              simp only [stpC] at hld3
              have ht1 : turnB 1 = false := by decide
              have hto1 : ∀ H, ecall T f_script_turned [.int .i64 1] H = some (.bool false, H) := fun H => by have := turned_ok 1 H; rwa [ht1] at this
              have hj := join_ok o3 x.words hA3.elems [32] (by omega) (by omega) H3
              have e32 : mkB [32] = ⟨#[32]⟩ := rfl
              rw [e32] at hj
              simp [e1, e4, hld, hto1, ht1, hit, vb, appUnbox hA, hA.ok, gSetAll, hap, appUnbox hA3, hA3.ok, hld3, hk11, hub, hvok, hlb, hj, gSetAll]
              rw [wp_seqK, wp_blockK]
              refine chs_loop x.chs hfit (by omega) v hv x.chs 0 rfl _ _ _ _ [Lib.join x.words [32]] (.sl 1 [strG (Lib.join x.words [32])] .exact) ?_ ?_ ?_ ?_ (.exact _) hbt3 (by simp) ?_ ?_
              · simp [hub]
              · simp
              · simp
              · simp [strG]
              · intro l2 g2 H2 o2 f0 f7 hA2 hbt2 hobj2
                have hok : x.okB = true := by
                  unfold Stp.okB
                  rw [hp, e0, f0]; simp [hk]
                have hln : [Lib.join x.words [32]] ++ x.chs.map Chg.text = x.lines := rfl
                rw [hln] at hA2
                have hll : x.lines.length ≤ 65 := by rw [← hln]; simp; omega
                have hjl := join_len 10 300 x.lines (fun w hw => by
                  rw [← hln] at hw
                  rcases List.mem_append.1 hw with hw | hw
                  · simp at hw; subst hw; omega
                  · obtain ⟨c, hc, rfl⟩ := List.mem_map.1 hw
                    exact (chg_text10 (List.all_eq_true.1 f0 c hc)).2)
                have hj2l : (Lib.join x.lines [10]).length ≤ 20000 := by
                  have : x.lines.length * 301 ≤ 65 * 301 := Nat.mul_le_mul hll (Nat.le_refl _)
                  omega
                have hj2 := join_ok o2 x.lines hA2.elems [10] (by omega) (by omega) H2
                have e10 : mkB [10] = ⟨#[10]⟩ := rfl
                rw [e10] at hj2
                have hcat : gStr .add (mkB (Lib.join x.lines [10])) ⟨#[10]⟩ = some (.str (mkB (Lib.join x.lines [10] ++ [10]))) := catK (by simp; omega)
                simp [f7, appUnbox hA2, hA2.ok, hj2, hcat, hcl, stpTx, hok]
                simp [Stp.text]
              · intro l2 g2 H2 f0 f2 f3
                have hok : x.okB = false := by
                  unfold Stp.okB
                  rw [f0]; simp
                simp [f2, f3, hcl, stpTx, hok]
            · have hmm : ([nthL namL x.k] ++ (ownL x.k).map (fun p => Lib.itoa (x.num p))).map strG = x.words.map strG := by simp [Stp.words, Stp.tail, ht', hk11, strG]
              rw [hmm] at hA
              have hj := join_ok o' x.words hA.elems [32] (by omega) (by omega) H'
              have e32 : mkB [32] = ⟨#[32]⟩ := rfl
              rw [e32] at hj
              simp [e1, e4, hld, hto, ht', appUnbox hA, hA.ok, gSetAll, hk11, hub, hvok, hlb, hj, gSetAll]
              rw [wp_seqK, wp_blockK]
              refine chs_loop x.chs hfit (by omega) v hv x.chs 0 rfl _ _ _ _ [Lib.join x.words [32]] (.sl 1 [strG (Lib.join x.words [32])] .exact) ?_ ?_ ?_ ?_ (.exact _) hbt (by simp) ?_ ?_
              · simp [hub]
              · simp
              · simp
              · simp [strG]
              · intro l2 g2 H2 o2 f0 f7 hA2 hbt2 hobj2
                have hok : x.okB = true := by
                  unfold Stp.okB
                  rw [hp, e0, f0]; simp [hk]
                have hln : [Lib.join x.words [32]] ++ x.chs.map Chg.text = x.lines := rfl
                rw [hln] at hA2
                have hll : x.lines.length ≤ 65 := by rw [← hln]; simp; omega
                have hjl := join_len 10 300 x.lines (fun w hw => by
                  rw [← hln] at hw
                  rcases List.mem_append.1 hw with hw | hw
                  · simp at hw; subst hw; omega
                  · obtain ⟨c, hc, rfl⟩ := List.mem_map.1 hw
                    exact (chg_text10 (List.all_eq_true.1 f0 c hc)).2)
                have hj2l : (Lib.join x.lines [10]).length ≤ 20000 := by
                  have : x.lines.length * 301 ≤ 65 * 301 := Nat.mul_le_mul hll (Nat.le_refl _)
                  omega
                have hj2 := join_ok o2 x.lines hA2.elems [10] (by omega) (by omega) H2
                have e10 : mkB [10] = ⟨#[10]⟩ := rfl
                rw [e10] at hj2
                have hcat : gStr .add (mkB (Lib.join x.lines [10])) ⟨#[10]⟩ = some (.str (mkB (Lib.join x.lines [10] ++ [10]))) := catK (by simp; omega)
                simp [f7, appUnbox hA2, hA2.ok, hj2, hcat, hcl, stpTx, hok]
                simp [Stp.text]
              · intro l2 g2 H2 f0 f2 f3
                have hok : x.okB = false := by
                  unfold Stp.okB
                  rw [f0]; simp
                simp [f2, f3, hcl, stpTx, hok]
        · intro l' H' e0 e2 e3
          have hok : x.okB = false := by
            unfold Stp.okB
            rw [e0]; simp
          simp [e2, e3, hcl, stpTx, hok]
end Go.Proofs.YtalhcaadpgadkaaDoor
