/- Own work, over the shadow machine: JSpec5. -/
import Derived.Test.YtalhcaadpgadkaaDoorSp4
set_option linter.all false
namespace Go.Proofs.YtalhcaadpgadkaaDoor
open Go.Sh
set_option maxRecDepth 100000

/-! ## A change read -/

@[simp] theorem unbox_row (n : Nat) (L : List (List UInt8)) (t : Tag) : unbox n (rowG L t) = rowG L t := rfl
@[simp] theorem ok_row (L : List (List UInt8)) (t : Tag) : (rowG L t).ok = true := rfl
@[simp] theorem over_bo (H : GH) : H.over.bo = H.objs.length := rfl
@[simp] theorem over_bt (H : GH) : H.over.bt = H.toks.length := rfl

theorem word_at1 (O : List GObj) (tk : List Nat) (bo bt : Nat) (r : List UInt8) (hr : r.length ≤ 4000000) (hb : bo ≤ O.length) :
    ecall T f_script_word [.ptr O.length 0] ⟨O ++ [.cells 9 [.str (mkB r)]], tk, bo, bt⟩ = some (.str (mkB (w1 r)), ⟨O ++ [.cells 9 [.str (mkB (r1 r))]], tk, bo, bt⟩) := by
  rw [word_ok (s := r) hr hb (by simp)]
  simp

theorem word_at2 (O : List GObj) (o2 : GObj) (tk : List Nat) (bo bt : Nat) (r : List UInt8) (hr : r.length ≤ 4000000) (hb : bo ≤ O.length) :
    ecall T f_script_word [.ptr O.length 0] ⟨O ++ [.cells 9 [.str (mkB r)], o2], tk, bo, bt⟩ = some (.str (mkB (w1 r)), ⟨O ++ [.cells 9 [.str (mkB (r1 r))], o2], tk, bo, bt⟩) := by
  rw [word_ok (s := r) hr hb (by simp)]
  simp

theorem parts_at (O : List GObj) (o1 : GObj) (tk : List Nat) (bo bt : Nat) (c0 c2 c3 c4 c5 c6 c7 c8 : GV) (k : Int) :
    ecall T f_script_parts [.ptr (O.length + 1) 1] ⟨O ++ [o1, .cells 39 [c0, .int .i64 k, c2, c3, c4, c5, c6, c7, c8]], tk, bo, bt⟩ = some (.sl 1 ((partO k).map fun o => .ptr (O.length + 1) o) .exact, ⟨O ++ [o1, .cells 39 [c0, .int .i64 k, c2, c3, c4, c5, c6, c7, c8]], tk, bo, bt⟩) :=
  parts_ok (t := 39) c0 (.int .i64 k) c2 c3 c4 c5 c6 c7 c8 k rfl (by simp)

theorem parse_fit (l : List UInt8) : ((parseV l).getD (0, 0, [])).2.2.length ≤ 1000 ∧ -9223372036854775808 ≤ ((parseV l).getD (0, 0, [])).2.1 ∧ ((parseV l).getD (0, 0, [])).2.1 ≤ 9223372036854775807 := by
  cases hp : parseV l with
  | none => simp
  | some v =>
    obtain ⟨k, n, t⟩ := v
    simp only [Option.getD_some]
    unfold parseV at hp
    split at hp
    · rename_i h
      injection hp with hp
      rw [hp] at h
      have hr : rightV k n t = true := by
        cases hr : rightV k n t with
        | true => rfl
        | false =>
          have h2 := h.2
          simp [txt3, txtV, hr] at h2
          exact absurd h2 (fun e => h.1 e)
      rcases right_cases hr with ⟨rfl, rfl, rfl⟩ | ⟨rfl, rfl, rfl⟩ | ⟨rfl, rfl, rfl⟩ | ⟨rfl, h1, h2, rfl⟩ | ⟨rfl, rfl⟩ | ⟨rfl, rfl⟩ | ⟨rfl, rfl⟩
      · simp
      · simp
      · simp
      · simp; omega
      · have hp : plainL t = true := by simpa [rightV] using hr
        simp [plainL] at hp
        simp; omega
      · have hp : nameL t = true := by simpa [rightV] using hr
        have := name_len hp
        simp; omega
      · have hp : (linkL t).isSome = true := by simpa [rightV] using hr
        have := (link10 hp).2
        simp; omega
    · cases hp

theorem value_Parse' (l : List UInt8) (hl : l.length ≤ 1000) (H : GH) : ecall T f_value_Parse [.str (mkB l)] H = some (opt3 (parseV l), H) := by
  have := value_Parse (mkB l) (by rw [mkB_size]; exact hl) H
  rwa [mkB_data] at this

theorem value_Parse2 (l : List UInt8) (hl : l.length ≤ 1000) (H : GH) : ecall T f_value_Parse [.str (mkB l)] H = some (.tup [.agg [.int .i64 ((parseV l).getD (0, 0, [])).1, .int .i64 ((parseV l).getD (0, 0, [])).2.1, .str (mkB ((parseV l).getD (0, 0, [])).2.2)], .bool (parseV l).isSome], H) := by
  rw [value_Parse' l hl H]
  cases parseV l <;> rfl

theorem of_fit (s : List UInt8) (hs : s.length ≤ 1000) (a b : Int) : CFit (Chg.of a b (takeP b (r1 (r1 s)))) := by
  have r2 : (r1 (r1 s)).length ≤ 1000 := Nat.le_trans (r1_len _) (Nat.le_trans (r1_len _) hs)
  have r3 : (r1 (r1 (r1 s))).length ≤ 1000 := Nat.le_trans (r1_len _) r2
  have r4 : (r1 (r1 (r1 (r1 s)))).length ≤ 1000 := Nat.le_trans (r1_len _) r3
  have r5 : (r1 (r1 (r1 (r1 (r1 s))))).length ≤ 1000 := Nat.le_trans (r1_len _) r4
  have q2 := Nat.le_trans (w1_len (r1 (r1 s))) r2
  have q3 := Nat.le_trans (w1_len (r1 (r1 (r1 s)))) r3
  have q4 := Nat.le_trans (w1_len (r1 (r1 (r1 (r1 s))))) r4
  have q5 := Nat.le_trans (w1_len (r1 (r1 (r1 (r1 (r1 s)))))) r5
  have hp := fun l => parse_fit l
  have hv : ∀ p : List UInt8 × List UInt8 × List UInt8 × List UInt8 × List UInt8, (Chg.of a b p).vt.length ≤ 1000 ∧ -9223372036854775808 ≤ (Chg.of a b p).vn ∧ (Chg.of a b p).vn ≤ 9223372036854775807 := by
    intro p
    unfold Chg.of
    by_cases h3 : a = 3
    · simp only [h3, if_true]; exact hp _
    · simp only [h3, if_false]; simp
  obtain ⟨v1, v2, v3⟩ := hv (takeP b (r1 (r1 s)))
  have key : (takeP b (r1 (r1 s))).1.length ≤ 1000 ∧ (takeP b (r1 (r1 s))).2.1.length ≤ 1000 ∧ (takeP b (r1 (r1 s))).2.2.1.length ≤ 1000 ∧ (takeP b (r1 (r1 s))).2.2.2.1.length ≤ 1000 := by
    unfold takeP
    split
    · exact ⟨q2, by simp, by simp, by simp⟩
    · split
      · exact ⟨q2, q4, q3, by simp⟩
      · split
        · exact ⟨q2, q4, q3, q5⟩
        · exact ⟨q2, by simp, by simp, q3⟩
  exact ⟨key.1, key.2.1, key.2.2.1, key.2.2.2, v1, v2, v3⟩

theorem els_cases {w : List UInt8} (h : ¬ idxL w elsL 0 < 1) : idxL w elsL 0 = 1 ∨ idxL w elsL 0 = 2 ∨ idxL w elsL 0 = 3 ∨ idxL w elsL 0 = 4 ∨ idxL w elsL 0 = 5 := by
  rcases idxL_range w elsL 0 with e | ⟨_, e2, _⟩
  · omega
  · have : elsL.length = 6 := rfl
    omega

theorem script_ReadChange (s : List UInt8) (hs : s.length ≤ 1000) (H : GH) : ecall T f_script_ReadChange [.str (mkB s)] H = some (.tup [chgG ((readC s).getD .zero), .bool (readC s).isSome], H) := by
  have hi1 := fun H => index_ok opsL .exact (w1 s) (by decide) H
  have hi2 := fun H => index_ok elsL .exact (w1 (r1 s)) (by decide) H
  have l1 := r1_len s
  have l2 := r1_len (r1 s)
  have l3 := r1_len (r1 (r1 s))
  have l4 := r1_len (r1 (r1 (r1 s)))
  have l5 := r1_len (r1 (r1 (r1 (r1 s))))
  have l6 := r1_len (r1 (r1 (r1 (r1 (r1 s)))))
  have hcl : ∀ (x : Chg) (b : Bool), clean H.objs.length H.toks.length 100 (.tup [chgG x, .bool b]) = some (.tup [chgG x, .bool b]) := fun _ _ => rfl
  have hz : ∀ b : Bool, clean H.objs.length H.toks.length 100 (.tup [.agg [.int .i64 0, .int .i64 0, .str ⟨#[]⟩, .str ⟨#[]⟩, .str ⟨#[]⟩, .str ⟨#[]⟩, .int .i64 0, .int .i64 0, .str ⟨#[]⟩], .bool b]) = some (.tup [.agg [.int .i64 0, .int .i64 0, .str ⟨#[]⟩, .str ⟨#[]⟩, .str ⟨#[]⟩, .str ⟨#[]⟩, .int .i64 0, .int .i64 0, .str ⟨#[]⟩], .bool b]) := fun _ => rfl
  have w1a := fun tk bo bt hb => word_at1 H.objs tk bo bt s (by omega) hb
  have w2a := fun o tk bo bt hb => word_at2 H.objs o tk bo bt (r1 s) (by omega) hb
  have w3a := fun o tk bo bt hb => word_at2 H.objs o tk bo bt (r1 (r1 s)) (by omega) hb
  have w4a := fun o tk bo bt hb => word_at2 H.objs o tk bo bt (r1 (r1 (r1 s))) (by omega) hb
  have w5a := fun o tk bo bt hb => word_at2 H.objs o tk bo bt (r1 (r1 (r1 (r1 s)))) (by omega) hb
  have w6a := fun o tk bo bt hb => word_at2 H.objs o tk bo bt (r1 (r1 (r1 (r1 (r1 s))))) (by omega) hb
  have hop' := fun H => ops_ok H
  have hel' := fun H => elems_ok H
  apply optW.eq
  rw [ecall_1 T_script_ReadChange rfl (by simp [F_script_ReadChange]), wp_fin1]
  by_cases hbad : idxL (w1 s) opsL 0 < 1 ∨ idxL (w1 (r1 s)) elsL 0 < 1
  · have hrd : readC s = none := by unfold readC; rw [if_pos hbad]
    by_cases hb1 : idxL (w1 s) opsL 0 < 1
    · simp [F_script_ReadChange, b_script_ReadChange, GH.newObj, setPart, hop', w1a, hi1, hel', w2a, hi2, gFill, hb1, hrd, hz, chgG, chgC, Chg.zero]
    · have hb2 := hbad.resolve_left hb1
      simp [F_script_ReadChange, b_script_ReadChange, GH.newObj, setPart, hop', w1a, hi1, hel', w2a, hi2, gFill, hb1, hb2, hrd, hz, chgG, chgC, Chg.zero]
  · have hn1 : ¬ idxL (w1 s) opsL 0 < 1 := fun h => hbad (.inl h)
    have hn2 : ¬ idxL (w1 (r1 s)) elsL 0 < 1 := fun h => hbad (.inr h)
    have hek := els_cases hn2
    obtain ⟨k2, hk2⟩ : ∃ k, idxL (w1 (r1 s)) elsL 0 = k := ⟨_, rfl⟩
    obtain ⟨k1, hk1⟩ : ∃ k, idxL (w1 s) opsL 0 = k := ⟨_, rfl⟩
    rw [hk2] at hek hn2
    rw [hk1] at hn1
    have hfit := of_fit s hs k1 k2
    have hrd : readC s = if (Chg.of k1 k2 (takeP k2 (r1 (r1 s)))).okB = true ∧ (Chg.of k1 k2 (takeP k2 (r1 (r1 s)))).text = s then some (Chg.of k1 k2 (takeP k2 (r1 (r1 s)))) else none := by
      unfold readC
      rw [if_neg hbad, hk1, hk2]
    have hch := fun H => script_Change _ hfit H
    have hi1' := fun H => (hi1 H)
    rw [hk1] at hi1
    rw [hk2] at hi2
    have hpa := fun o1 tk bo bt => parts_at H.objs o1 tk bo bt
    have hpr2 := fun H => value_Parse2 (r1 (r1 (r1 s))) (by omega) H
    have hpr3 := fun H => value_Parse2 (r1 (r1 (r1 (r1 s)))) (by omega) H
    have hpr4 := fun H => value_Parse2 (r1 (r1 (r1 (r1 (r1 s))))) (by omega) H
    have hpr5 := fun H => value_Parse2 (r1 (r1 (r1 (r1 (r1 (r1 s)))))) (by omega) H
    have fin : ∀ (c : Chg), Chg.of k1 k2 (takeP k2 (r1 (r1 s))) = c → ((readC s).isSome = (c.okB && decide (c.text = s)) ∧ (c.okB = true → c.text = s → (readC s).getD .zero = c) ∧ (¬ (c.okB = true ∧ c.text = s) → (readC s).getD .zero = .zero)) := by
      intro c hc
      rw [hrd, hc]
      by_cases h : c.okB = true ∧ c.text = s
      · rw [if_pos h]; simp [h.1, h.2]
      · rw [if_neg h]
        refine ⟨?_, fun h1 h2 => absurd ⟨h1, h2⟩ h, fun _ => rfl⟩
        cases ho : c.okB with
        | false => rfl
        | true => simp [ho] at h; simp [h]
    obtain ⟨c, hc⟩ : ∃ c, Chg.of k1 k2 (takeP k2 (r1 (r1 s))) = c := ⟨_, rfl⟩
    obtain ⟨f1, f2, f3⟩ := fin c hc
    rw [hc] at hch
    obtain ⟨G, hG⟩ : ∃ G, chgG c = G := ⟨_, rfl⟩
    have hcl1 := hcl c
    have hcg : G = chgG (Chg.of k1 k2 (takeP k2 (r1 (r1 s)))) := by rw [hc]; exact hG.symm
    rw [hG] at hch hcl1
    rw [f1]
    rcases hek with e2 | e2 | e2 | e2 | e2
    all_goals
      subst e2
      have v1 : IntKind.i64.wrap 1 = 1 := by decide
      have v2 : IntKind.i64.wrap 2 = 2 := by decide
      have v3 : IntKind.i64.wrap 3 = 3 := by decide
      have v4 : IntKind.i64.wrap 4 = 4 := by decide
      by_cases h3 : k1 = 3
      · subst h3
        simp [Chg.of, takeP, chgG, chgC] at hcg
        rw [hcg] at hch hcl1 hG
        cases hok : c.okB with
        | false =>
          rw [hok] at hch f3
          rw [f3 (by simp)]
          simp [F_script_ReadChange, b_script_ReadChange, GH.newObj, setPart, hop', w1a, hi1, hel', w2a, hi2, gFill, hpa, partO, run_loop, L0_script_ReadChange, w3a, w4a, w5a, w6a, hpr2, hpr3, hpr4, hpr5, hch, gIx, v1, v2, v3, v4, hz, chgTx, hok]
          simp [chgG, chgC, Chg.zero]
        | true =>
          rw [hok] at hch f3 f2
          by_cases ht : c.text = s
          · rw [f2 rfl ht, hG]
            simp [F_script_ReadChange, b_script_ReadChange, GH.newObj, setPart, hop', w1a, hi1, hel', w2a, hi2, gFill, hpa, partO, run_loop, L0_script_ReadChange, w3a, w4a, w5a, w6a, hpr2, hpr3, hpr4, hpr5, hch, gIx, v1, v2, v3, v4, hcl1, chgTx, hok, ht]
          · rw [f3 (fun h => ht h.2)]
            simp [F_script_ReadChange, b_script_ReadChange, GH.newObj, setPart, hop', w1a, hi1, hel', w2a, hi2, gFill, hpa, partO, run_loop, L0_script_ReadChange, w3a, w4a, w5a, w6a, hpr2, hpr3, hpr4, hpr5, hch, gIx, v1, v2, v3, v4, hz, chgTx, hok, ht]
            simp [chgG, chgC, Chg.zero]
      · simp [Chg.of, takeP, chgG, chgC, h3] at hcg
        rw [hcg] at hch hcl1 hG
        cases hok : c.okB with
        | false =>
          rw [hok] at hch f3
          rw [f3 (by simp)]
          simp [F_script_ReadChange, b_script_ReadChange, GH.newObj, setPart, hop', w1a, hi1, hel', w2a, hi2, gFill, hn1, h3, hpa, partO, run_loop, L0_script_ReadChange, w3a, w4a, w5a, w6a, hch, gIx, v1, v2, v3, v4, hz, chgTx, hok]
          simp [chgG, chgC, Chg.zero]
        | true =>
          rw [hok] at hch f3 f2
          by_cases ht : c.text = s
          · rw [f2 rfl ht, hG]
            simp [F_script_ReadChange, b_script_ReadChange, GH.newObj, setPart, hop', w1a, hi1, hel', w2a, hi2, gFill, hn1, h3, hpa, partO, run_loop, L0_script_ReadChange, w3a, w4a, w5a, w6a, hch, gIx, v1, v2, v3, v4, hcl1, chgTx, hok, ht]
          · rw [f3 (fun h => ht h.2)]
            simp [F_script_ReadChange, b_script_ReadChange, GH.newObj, setPart, hop', w1a, hi1, hel', w2a, hi2, gFill, hn1, h3, hpa, partO, run_loop, L0_script_ReadChange, w3a, w4a, w5a, w6a, hch, gIx, v1, v2, v3, v4, hz, chgTx, hok, ht]
            simp [chgG, chgC, Chg.zero]
end Go.Proofs.YtalhcaadpgadkaaDoor
