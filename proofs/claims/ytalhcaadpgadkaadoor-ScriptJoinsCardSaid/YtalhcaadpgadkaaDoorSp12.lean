/- Own work, over the shadow machine: JSpec12. -/
import Derived.Test.YtalhcaadpgadkaaDoorSp11
set_option linter.all false
namespace Go.Proofs.YtalhcaadpgadkaaDoor
open Go.Sh
set_option maxRecDepth 100000

/-- No line of it is too long. -/
def shortL (rest : List UInt8) : Prop := ∀ p q, rest = p ++ q → (Lib.cut q [10]).1.length ≤ 1000

theorem cut_suffix (x : UInt8) (l : List UInt8) : ∃ p, l = p ++ (Lib.cut l [x]).2.1 := by
  rcases cut_cases x l with ⟨w, r, _, e, h⟩ | ⟨_, h⟩
  · rw [h]; exact ⟨w ++ [x], by rw [e]; simp⟩
  · rw [h]; exact ⟨l, by simp⟩

theorem shortL.next {rest : List UInt8} (h : shortL rest) (bad : Bool) : shortL (lineR rest bad).2.1 := by
  obtain ⟨p, hp⟩ := cut_suffix 10 rest
  intro a b hab
  refine h (p ++ a) b ?_
  have : (lineR rest bad).2.1 = (Lib.cut rest [10]).2.1 := rfl
  rw [this] at hab
  rw [List.append_assoc, ← hab]; exact hp

theorem shortL.line {rest : List UInt8} (h : shortL rest) (bad : Bool) : (lineR rest bad).1.length ≤ 1000 := h [] rest rfl

theorem appCong {H H' : GH} {sz : Nat} {s : GV} {xs : List GV} (h : App H sz s xs) (ht : H'.toks = H.toks) (hb : H'.bt = H.bt) : App H' sz s xs := by
  cases h with
  | nil => exact .nil
  | exact => exact .exact _
  | tok _ h1 h2 => exact .tok _ (by rw [ht]; exact h1) (by rw [hb]; exact h2)

/-- So much of the tokens stays. -/
def Keep (base : Nat) (tk tk' : List Nat) : Prop := base ≤ tk'.length ∧ ∀ t p, t < base → tk[t]? = some p → tk'[t]? = some p

theorem Keep.refl {base : Nat} {tk : List Nat} (h : base ≤ tk.length) : Keep base tk tk := ⟨h, fun _ _ _ h => h⟩
theorem Keep.trans {base : Nat} {a b c : List Nat} (h : Keep base a b) (h' : Keep base b c) : Keep base a c := ⟨h'.1, fun t p ht hp => h'.2 t p ht (h.2 t p ht hp)⟩

theorem rM_of {H : GH} {O : List GObj} {rid : Nat} {rest : List UInt8} {bad : Bool} {x : Stp} {v : GV} {L : List UInt8} {tk : List Nat} {bo bt : Nat} {own : Option Nat} (h : TokStep own (rM O rid rest bad x v L tk bo bt) H) : H = rM O rid rest bad x v L H.toks bo bt := by
  obtain ⟨o, t, a, b⟩ := H
  have h1 := h.objs; have h2 := h.bo; have h3 := h.bt
  simp only [rM] at h1 h2 h3 ⊢
  subst h1 h2 h3
  rfl

theorem takeC_loop (O : List GObj) (rid : Nat) (hr : rid < O.length) (bo bt : Nat) (hb : bo ≤ rid) (x : Stp) (L : List UInt8) (m : Int) (hm : m ≤ 64) (base : Nat) (hbase : bt ≤ base) (n : Nat) : ∀ (i : Nat) (_ : (m - i).toNat = n) (_ : i ≤ 64) (rest : List UInt8) (bad : Bool) (done : List Chg) (v : GV) (tk : List Nat) (l : List GV) (g : Nat) (K : GExit × St → Prop)
    (_ : shortL rest) (_ : rest.length ≤ 4000000) (_ : done.length ≤ i)
    (_ : lget l 62 = .int .i64 m) (_ : lget l 63 = .int .i64 i) (_ : lget l 0 = .ptr rid 0) (_ : lget l 2 = .ptr O.length 0)
    (_ : App ⟨[], tk, 0, bt⟩ 9 v (done.map chgG)) (_ : base ≤ tk.length) (_ : ∀ t, tokOf v = some t → base ≤ t)
    (_ : ∀ (l' : List GV) (g' : Nat) (v' : GV) (tk' : List Nat), lget l' 2 = .ptr O.length 0 → App ⟨[], tk', 0, bt⟩ 9 v' ((takeC n rest bad done).1.map chgG) → Keep base tk tk' → K (.exit 2, ⟨⟨l', g'⟩, rM O rid (takeC n rest bad done).2.1 (takeC n rest bad done).2.2 x v' L tk' bo bt⟩)),
    optW (erun T (.loop L1_script_reader_step) ⟨⟨l, g⟩, rM O rid rest bad x v L tk bo bt⟩) K := by
  induction n with
  | zero =>
    intro i hi hi64 rest bad done v tk l g K hsh hrl hdl h62 h63 h0 h2 hA hbl htk he
    have hge : ¬ ((i : Int) < m) := by omega
    rw [run_loop]
    simp [L1_script_reader_step, h62, h63, hge]
    exact he _ g v tk (by simp [h2]) hA (.refl hbl)
  | succ n ih =>
    intro i hi hi64 rest bad done v tk l g K hsh hrl hdl h62 h63 h0 h2 hA hbl htk he
    have hlt : (i : Int) < m := by omega
    have hw : IntKind.i64.wrap ((i : Int) + 1) = (i : Int) + 1 := wrap_i64' (by omega) (by omega)
    have hline := rM_line hr rest bad x v L tk bo bt hb hrl
    have hlen := lineR_len rest bad
    have hrd := script_ReadChange (lineR rest bad).1 (hsh.line bad)
    have hbo : bo ≤ O.length := by omega
    have key : takeC (n + 1) rest bad done = match readC (lineR rest bad).1 with
      | none => (done, (lineR rest bad).2.1, true)
      | some c => if (lineR rest bad).2.2 = true then (done, (lineR rest bad).2.1, true) else takeC n (lineR rest bad).2.1 false (done ++ [c]) := rfl
    rw [key] at he
    have hsh' := hsh.next bad
    obtain ⟨w, hw1⟩ : ∃ w, (lineR rest bad).1 = w := ⟨_, rfl⟩
    obtain ⟨rest', hw2⟩ : ∃ r, (lineR rest bad).2.1 = r := ⟨_, rfl⟩
    obtain ⟨bad', hw3⟩ : ∃ b, (lineR rest bad).2.2 = b := ⟨_, rfl⟩
    rw [hw1, hw2, hw3] at he hline hlen
    rw [hw1] at hrd
    rw [hw2] at hsh'
    have gr := fun b => rM_r (O := O) hr rest' b x v L tk bo bt
    have sr := fun b b' => rM_setr (O := O) hr rest' b x v L tk bo bt rest' b'
    have gs := fun b => rM_s (O := O) (rid := rid) rest' b x v L tk bo bt
    have stop : readC w = none ∨ bad' = true → (match readC w with
      | none => (done, rest', true)
      | some c => if bad' = true then (done, rest', true) else takeC n rest' false (done ++ [c])) = (done, rest', true) := by
      rintro (h | h)
      · rw [h]
      · cases readC w with
        | none => rfl
        | some c => simp [h]
    cases hc : readC w with
    | none =>
      rw [hc] at hrd
      have hst := stop (.inl hc)
      rw [hst] at he
      simp only [Option.getD_none, Option.isSome_none, chgG, chgC, Chg.zero, mkB_empty] at hrd
      cases bad' with
      | true =>
        rw [run_loop, wp_seqK]
        simp [L1_script_reader_step, h62, h63, h0, h2, hlt, hline, hrd, setPart, gr, sr, hb]
        exact he _ _ v tk (by simp [h2]) hA (.refl hbl)
      | false =>
        rw [run_loop, wp_seqK]
        simp [L1_script_reader_step, h62, h63, h0, h2, hlt, hline, hrd, setPart, gr, sr, hb]
        exact he _ _ v tk (by simp [h2]) hA (.refl hbl)
    | some c =>
      rw [hc] at hrd
      simp only [Option.getD_some, Option.isSome_some, chgG, chgC] at hrd
      cases bad' with
      | true =>
        have hst := stop (.inr rfl)
        rw [hst] at he
        rw [run_loop, wp_seqK]
        simp [L1_script_reader_step, h62, h63, h0, h2, hlt, hline, hrd, setPart, gr, sr, hb]
        exact he _ _ v tk (by simp [h2]) hA (.refl hbl)
      | false =>
        simp only [hc, Bool.false_eq_true, if_false] at he
        have hA1 : App (rM O rid rest' false x v L tk bo bt) 9 v (done.map chgG) := appCong hA rfl rfl
        obtain ⟨v', H', hap, hA', hstep, hheir⟩ := append_ok (ty := 39) (bytes := 112) (x := .sl 9 [chgG c] .exact) (ys := [chgG c]) hA1 (by simp [gNews]) (by simp; omega) (by simp [room]; omega) (by simp [maxLen]; omega)
        have hH := rM_of hstep
        have c7 : (stpC x v)[7]? = some v := rfl
        have s7 : List.take 7 (stpC x v) ++ v' :: List.drop 8 (stpC x v) = stpC x v' := rfl
        have s8 : (stpC x v).length = 8 := rfl
        have c9 : ∀ h : 7 < (stpC x v).length, (stpC x v)[7]'h = v := fun _ => rfl
        have gs' := rM_s (O := O) (rid := rid) rest' false x v L H'.toks bo bt
        have ss := rM_sets (O := O) (rid := rid) rest' false x v L H'.toks bo bt x v'
        have hmm : done.map chgG ++ [chgG c] = (done ++ [c]).map chgG := by simp
        rw [hmm] at hA'
        have hA2 : App ⟨[], H'.toks, 0, bt⟩ 9 v' ((done ++ [c]).map chgG) := appCong hA' rfl (by rw [hstep.bt]; rfl)
        have hlen' : tk.length ≤ H'.toks.length := hstep.len
        have hkeep : Keep base tk H'.toks := ⟨by omega, fun t p ht hp => hstep.tok t p (fun e => by have := htk t e; omega) hp⟩
        have htk' : ∀ t, tokOf v' = some t → base ≤ t := by
          intro t ht
          rcases hheir with h | h
          · exact htk t (by rw [← h]; exact ht)
          · have := h t ht
            have e : (rM O rid rest' false x v L tk bo bt).toks.length = tk.length := rfl
            omega
        rw [hH] at hap
        have hE := hA2.elems
        have hone := hE.one
        have hcel := hE.cells
        have hok := hE.ok
        have hu := elemsUnbox hE
        have hvu := elemsUnbox hA.elems
        have hvo := hA.elems.ok
        simp only [chgG, chgC] at hap
        rw [run_loop, wp_seqK]
        simp [L1_script_reader_step, h62, h63, h0, h2, hlt, hline, hrd, setPart, gr, sr, hb, gs, c7, gSetAll, hap, gs', s7, s8, c9, ss, hone, hcel, hok, hu, hvu, hvo, hbo, hw]
        refine ih (i + 1) (by omega) (by omega) rest' false (done ++ [c]) v' H'.toks _ _ K hsh' (by omega) (by simp; omega) ?_ ?_ ?_ ?_ hA2 (by omega) htk' ?_
        · simp [h62]
        · simp
        · simp [h0]
        · simp [h2]
        · intro l' g' v2 tk2 f2 f3 f4
          exact he l' g' v2 tk2 f2 f3 (hkeep.trans f4)
end Go.Proofs.YtalhcaadpgadkaaDoor
