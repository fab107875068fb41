/- Own work, over the shadow machine: JSpec14. -/
import Derived.Test.YtalhcaadpgadkaaDoorSp13
set_option linter.all false
namespace Go.Proofs.YtalhcaadpgadkaaDoor
open Go.Sh
set_option maxRecDepth 100000

/-! ## What reading keeps -/

theorem takeC_props : ∀ (n : Nat) (rest : List UInt8) (bad : Bool) (done : List Chg), (∀ c ∈ done, c.okB = true) →
    (takeC n rest bad done).2.1.length ≤ rest.length ∧ (shortL rest → shortL (takeC n rest bad done).2.1) ∧ (∀ c ∈ (takeC n rest bad done).1, c.okB = true) ∧ (bad = true → (takeC n rest bad done).2.2 = true)
  | 0, rest, bad, done, h => ⟨Nat.le_refl _, fun h => h, h, fun h => h⟩
  | n + 1, rest, bad, done, h => by
    have hl := (lineR_len rest bad).2.1
    have hs : shortL rest → shortL (lineR rest bad).2.1 := fun h => h.next bad
    have hb : bad = true → (lineR rest bad).2.2 = true := fun h => by simp [lineR, h]
    simp only [takeC]
    cases hc : readC (lineR rest bad).1 with
    | none => exact ⟨hl, hs, h, fun _ => rfl⟩
    | some c =>
      simp only
      by_cases hbb : (lineR rest bad).2.2 = true
      · rw [if_pos hbb]; exact ⟨hl, hs, h, fun _ => rfl⟩
      · rw [if_neg hbb]
        obtain ⟨a1, a2, a3, a4⟩ := takeC_props n (lineR rest bad).2.1 false (done ++ [c]) (fun d hd => by
          rcases List.mem_append.1 hd with hd | hd
          · exact h d hd
          · simp at hd; subst hd; exact (readC_some hc).1)
        exact ⟨Nat.le_trans a1 hl, fun h => a2 (hs h), a3, fun h => absurd (hb h) hbb⟩

theorem setN_fit {x : Stp} (h : SFit x) {n : Int} (h1 : -9223372036854775808 ≤ n) (h2 : n ≤ 9223372036854775807) (j : Nat) : SFit (x.setN j n) := by
  obtain ⟨a1, a2, b1, b2, c1, c2, d1, d2, e1, e2, f1, f2⟩ := h
  unfold Stp.setN
  split <;> constructor <;> (try simp only) <;> first | assumption | omega

theorem takeN_fit : ∀ (js : List Nat) (x : Stp) (l : List UInt8) (bad : Bool), SFit x → SFit (takeN js x l bad).1 ∧ (bad = true → (takeN js x l bad).2.2 = true)
  | [], x, l, bad, h => ⟨h, fun h => h⟩
  | j :: js, x, l, bad, h => by
    obtain ⟨n1, n2⟩ := numO_range (w1 l)
    simp only [takeN]
    obtain ⟨a, b⟩ := takeN_fit js (x.setN j (numO (w1 l)).1) (r1 l) (bad || (numO (w1 l)).2) (setN_fit h n1 n2 j)
    exact ⟨a, fun h => b (by simp [h])⟩

theorem zero_fit (k : Int) : SFit ⟨k, 0, 0, 0, 0, 0, 0, []⟩ := ⟨by simp, by simp, by simp, by simp, by simp, by simp, by simp, by simp, by simp, by simp, by simp, by simp⟩

structure StepOk (rest : List UInt8) (t : Stp × List UInt8 × Bool) : Prop where
  len : t.2.1.length ≤ rest.length
  short : shortL rest → shortL t.2.1
  bad : t.2.2 = true ∨ t.2.1.length + 1 ≤ rest.length
  fit : SFit t.1
  chs : ∀ c ∈ t.1.chs, c.okB = true

theorem stepBc_ok (x : Stp) (l rest : List UInt8) (bad : Bool) (hf : SFit x) (hc : x.chs = []) :
    (stepBc x l rest bad).2.1.length ≤ rest.length ∧ (shortL rest → shortL (stepBc x l rest bad).2.1) ∧ SFit (stepBc x l rest bad).1 ∧ (∀ c ∈ (stepBc x l rest bad).1.chs, c.okB = true) ∧ (bad = true → (stepBc x l rest bad).2.2 = true) := by
  unfold stepBc
  split
  · obtain ⟨a1, a2, a3, a4⟩ := takeC_props (min (numO (w1 l)).1 64).toNat rest (bad || (numO (w1 l)).2) [] (fun c hc => by cases hc)
    obtain ⟨c1, c2, c3, c4, c5, c6, c7, c8, c9, c10, c11, c12⟩ := hf
    exact ⟨a1, a2, ⟨c1, c2, c3, c4, c5, c6, c7, c8, c9, c10, c11, c12⟩, a3, fun h => a4 (by simp [h])⟩
  · exact ⟨Nat.le_refl _, fun h => h, hf, fun c hc' => by simp [hc] at hc', fun h => h⟩

theorem stepR_ok (rest : List UInt8) (bad : Bool) : StepOk rest (stepR rest bad) := by
  have hl := lineR_len rest bad
  have hs : shortL rest → shortL (lineR rest bad).2.1 := fun h => h.next bad
  unfold stepR
  simp only
  split
  · exact ⟨hl.2.1, hs, .inl rfl, zero_fit _, fun c hc => by cases hc⟩
  · obtain ⟨k, hk⟩ : ∃ k, idxL (w1 (lineR rest bad).1) namL 0 = k := ⟨_, rfl⟩
    rw [hk]
    have h0 : SFit ⟨k, 0, 0, 0, 0, 0, 0, []⟩ := zero_fit k
    obtain ⟨f1, f2⟩ := takeN_fit (ownL k) ⟨k, 0, 0, 0, 0, 0, 0, []⟩ (r1 (lineR rest bad).1) (lineR rest bad).2.2 h0
    obtain ⟨q1, q2, q3⟩ := takeN_k (ownL k) (ownL_in k).2 ⟨k, 0, 0, 0, 0, 0, 0, []⟩ (r1 (lineR rest bad).1) (lineR rest bad).2.2
    obtain ⟨u, hu⟩ : ∃ u, takeN (ownL k) ⟨k, 0, 0, 0, 0, 0, 0, []⟩ (r1 (lineR rest bad).1) (lineR rest bad).2.2 = u := ⟨_, rfl⟩
    rw [hu] at f1 f2 q1 q2 q3 ⊢
    simp only at q2
    have fin : ∀ (t : Stp × List UInt8 × Bool), (t.2.1.length ≤ (lineR rest bad).2.1.length ∧ (shortL (lineR rest bad).2.1 → shortL t.2.1) ∧ SFit t.1 ∧ (∀ c ∈ t.1.chs, c.okB = true) ∧ (u.2.2 = true → t.2.2 = true)) → StepOk rest t := by
      intro t ⟨a, b, c, d, e⟩
      refine ⟨by omega, fun h => b (hs h), ?_, c, d⟩
      rcases hl.2.2 with h | h
      · exact .inl (e (f2 h))
      · exact .inr (by omega)
    unfold stepTu
    split
    · simp only
      have hb0 : 0 ≤ Go.Sh.byteOf (numO (w1 u.2.1)).1 ∧ Go.Sh.byteOf (numO (w1 u.2.1)).1 ≤ 255 := by
        unfold Go.Sh.byteOf
        rw [IntKind.wrap_u8]
        omega
      obtain ⟨c1, c2, c3, c4, c5, c6, c7, c8, c9, c10, c11, c12⟩ := f1
      obtain ⟨a, b, c, d, e⟩ := stepBc_ok { u.1 with by_ := Go.Sh.byteOf (numO (w1 u.2.1)).1 } (r1 u.2.1) (lineR rest bad).2.1 (u.2.2 || (numO (w1 u.2.1)).2 || decide ((numO (w1 u.2.1)).1 < 0 ∨ 255 < (numO (w1 u.2.1)).1)) ⟨c1, c2, c3, c4, c5, c6, c7, c8, c9, c10, hb0.1, hb0.2⟩ q2
      exact fin _ ⟨a, b, c, d, fun h => e (by simp [h])⟩
    · exact fin _ (stepBc_ok u.1 u.2.1 (lineR rest bad).2.1 u.2.2 f1 q2)

/-! ## Steps read -/

theorem read_stop (rid : Nat) {rest : List UInt8} {bad : Bool} (hstop : rest = [] ∨ bad = true) (O : List GObj) (tk : List Nat) (bo bt : Nat) (l : List GV) (g : Nat) (K : GExit × St → Prop)
    (hO : O[rid]? = some (.cells 52 [.str (mkB rest), .bool bad])) (h4 : lget l 4 = .ptr rid 0)
    (he : ∀ l' : List GV, lget l' 4 = .ptr rid 0 → (∀ t, t < 11 → lget l' t = lget l t) → K (.exit 0, ⟨⟨l', g⟩, ⟨O, tk, bo, bt⟩⟩)) :
    optW (erun T (.loop L0_script_Read) ⟨⟨l, g⟩, ⟨O, tk, bo, bt⟩⟩) K := by
  have hlow : ∀ (n : Nat) (v : GV) (l : List GV), 11 ≤ n → ∀ t, t < 11 → lget (lput l n v) t = lget l t := fun n v l hn t ht => by
    rw [lget_lput]; rw [if_neg (by omega)]
  by_cases h0 : rest = []
  · subst h0
    rw [run_loop]
    simp [L0_script_Read, h4, hO]
    refine he _ (by simp [h4]) (fun t ht => ?_)
    simp [show t ≠ 11 by omega, show t ≠ 12 by omega, show t ≠ 13 by omega, show t ≠ 14 by omega, show t ≠ 15 by omega, show t ≠ 16 by omega, show t ≠ 17 by omega, show t ≠ 18 by omega, show t ≠ 19 by omega, show t ≠ 20 by omega, show t ≠ 21 by omega, show t ≠ 22 by omega]
  · have hb := hstop.resolve_left h0
    subst hb
    rw [run_loop]
    simp [L0_script_Read, h4, hO, h0]
    refine he _ (by simp [h4]) (fun t ht => ?_)
    simp [show t ≠ 11 by omega, show t ≠ 12 by omega, show t ≠ 13 by omega, show t ≠ 14 by omega, show t ≠ 15 by omega, show t ≠ 16 by omega, show t ≠ 17 by omega, show t ≠ 18 by omega, show t ≠ 19 by omega, show t ≠ 20 by omega, show t ≠ 21 by omega, show t ≠ 22 by omega]
end Go.Proofs.YtalhcaadpgadkaaDoor
