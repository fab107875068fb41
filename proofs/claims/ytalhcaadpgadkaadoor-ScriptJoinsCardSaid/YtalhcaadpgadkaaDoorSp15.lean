/- Own work, over the shadow machine: JSpec15. -/
import Derived.Test.YtalhcaadpgadkaaDoorSp14
set_option linter.all false
namespace Go.Proofs.YtalhcaadpgadkaaDoor
open Go.Sh
set_option maxRecDepth 100000

theorem readG_stop {rest : List UInt8} {bad : Bool} (h : rest = [] ∨ bad = true) (n : Nat) (done : List Stp) : readG n rest bad done = (done, bad) := by
  cases n with
  | zero => rfl
  | succ n => simp only [readG]; rw [if_pos h]

/-- What steps that are read leave. -/
structure ReadOk (rid bo bt : Nat) (res : List Stp × Bool) (l' : List GV) (O' : List GObj) (tk' : List Nat) (L : List SP) (o' : GV) : Prop where
  four : lget l' 4 = .ptr rid 0
  five : lget l' 5 = o'
  app : App ⟨O', tk', bo, bt⟩ 8 o' (L.map spG)
  fst : L.map (·.1) = res.1
  ok : ∀ p ∈ L, SOk p
  obj : ∃ rest, O'[rid]? = some (.cells 52 [.str (mkB rest), .bool res.2])

theorem read_loop (rid bo bt : Nat) (hb : bo ≤ rid) (s0 : GV) (n : Nat) : ∀ (rest : List UInt8) (bad : Bool) (O : List GObj) (tk : List Nat) (done : List SP) (l : List GV) (g : Nat) (K : GExit × St → Prop) (o : GV)
    (_ : rest.length < n) (_ : shortL rest) (_ : rest.length ≤ 4000000) (_ : rid < O.length) (_ : bt ≤ tk.length) (_ : O[rid]? = some (.cells 52 [.str (mkB rest), .bool bad])) (_ : lget l 0 = s0) (_ : lget l 4 = .ptr rid 0) (_ : lget l 5 = o) (_ : App ⟨O, tk, bo, bt⟩ 8 o (done.map spG)) (_ : ∀ p ∈ done, SOk p) (_ : done.length + n ≤ 5000000)
    (_ : ∀ (l' : List GV) (g' : Nat) (O' : List GObj) (tk' : List Nat) (L : List SP) (o' : GV), ReadOk rid bo bt (readG n rest bad (done.map (·.1))) l' O' tk' L o' → lget l' 0 = s0 → K (.exit 0, ⟨⟨l', g'⟩, ⟨O', tk', bo, bt⟩⟩)),
    optW (erun T (.loop L0_script_Read) ⟨⟨l, g⟩, ⟨O, tk, bo, bt⟩⟩) K := by
  induction n with
  | zero => intro rest bad O tk done l g K o hn; omega
  | succ n ih =>
    intro rest bad O tk done l g K o hn hsh hrl hr hbt hO h0 h4 h5 hA hdone hdl he
    by_cases hstop : rest = [] ∨ bad = true
    · refine read_stop rid hstop O tk bo bt l g K hO h4 ?_
      intro l' f4 flow
      rw [readG_stop hstop] at he
      exact he l' g O tk done o ⟨f4, (flow 5 (by omega)).trans h5, hA, rfl, hdone, rest, hO⟩ ((flow 0 (by omega)).trans h0)
    · have hne : rest ≠ [] := fun h => hstop (.inl h)
      have hnb : bad = false := by
        cases h : bad with
        | false => rfl
        | true => exact absurd (.inr h) hstop
      subst hnb
      have hsok := stepR_ok rest false
      obtain ⟨r, hcall, ⟨v', S, L0, tk', rfl, hE, hkeep⟩⟩ := reader_step O rid rest false tk bo bt hr hb hbt hO hsh hrl
      have hG : readG (n + 1) rest false (done.map (·.1)) = readG n (stepR rest false).2.1 (stepR rest false).2.2 ((done.map (·.1)) ++ [(stepR rest false).1]) := by
        simp only [readG]; rw [if_neg hstop]
      rw [hG] at he
      obtain ⟨t, ht⟩ : ∃ t, stepR rest false = t := ⟨_, rfl⟩
      rw [ht] at hsok hcall hE he
      obtain ⟨x, rest', bad'⟩ := t
      simp only at hcall hE he
      have hlen := hsok.len
      have hbd := hsok.bad
      simp only at hlen hbd
      obtain ⟨O', hOd⟩ : ∃ O', O.set rid (.cells 52 [.str (mkB rest'), .bool bad']) ++ [.cells 33 S, .cells 9 [.str (mkB L0)]] = O' := ⟨_, rfl⟩
      have hO' : O'[rid]? = some (.cells 52 [.str (mkB rest'), .bool bad']) := by
        rw [← hOd, List.getElem?_append_left (by simpa using hr)]; simp [hr]
      have hr' : rid < O'.length := by rw [← hOd]; simp; omega
      rw [hOd] at hcall
      have hbt' : bt ≤ tk'.length := Nat.le_trans hbt hkeep.1
      have hA1 : App ⟨O', tk', bo, bt⟩ 8 o (done.map spG) := by
        revert hA
        generalize done.map spG = zs
        intro hA
        cases hA with
        | nil => exact .nil
        | exact => exact .exact _
        | tok _ h1 h2 => exact .tok _ (hkeep.2 _ _ (List.getElem?_eq_some_iff.1 h1).1 h1) h2
      obtain ⟨o', H', hap, hA', hstep, _⟩ := append_ok (ty := 33) (bytes := 80) (x := .sl 8 [stpG x v'] .exact) (ys := [stpG x v']) hA1 (by simp [gNews]) hbt' (by simp [room]; omega) (by simp [maxLen]; omega)
      have hH : H' = ⟨O', H'.toks, bo, bt⟩ := by
        obtain ⟨a, b, c, d⟩ := H'
        have q1 := hstep.objs; have q2 := hstep.bo; have q3 := hstep.bt
        simp only at q1 q2 q3
        subst q1 q2 q3
        rfl
      have hbt2 : bt ≤ H'.toks.length := by
        have := hstep.btle hbt'
        rw [hstep.bt] at this
        exact this
      have hmm : done.map spG ++ [stpG x v'] = (done ++ [(x, v')]).map spG := by simp [spG]
      rw [hmm] at hA'
      rw [hH] at hap hA'
      have hdone' : ∀ p ∈ done ++ [(x, v')], SOk p := by
        intro p hp
        rcases List.mem_append.1 hp with hp | hp
        · exact hdone p hp
        · simp at hp; subst hp
          exact ⟨hsok.fit, hE, fun c hc => okfit (hsok.chs c hc)⟩
      have hu := appUnbox hA1
      have hok1 := hA1.ok
      have hu' := appUnbox hA'
      have hvo := hE.one
      simp only [stpG, stpC] at hcall hap
      rw [run_loop, wp_seqK]
      simp [L0_script_Read, h4, h5, hO, hne, hcall, gSetAll, hvo, hu, hok1, hap, hu']
      have hfst : (done ++ [(x, v')]).map (·.1) = done.map (·.1) ++ [x] := by simp
      have key : ∀ (l2 : List GV) (g2 : Nat), lget l2 0 = s0 → lget l2 4 = .ptr rid 0 → lget l2 5 = o' → optW (erun T (.loop L0_script_Read) ⟨⟨l2, g2⟩, ⟨O', H'.toks, bo, bt⟩⟩) K := by
        intro l2 g2 e0 e4 e5
        rcases hbd with hbd | hbd
        · subst hbd
          refine read_stop rid (.inr rfl) O' H'.toks bo bt l2 g2 K hO' e4 ?_
          intro l' f4 flow
          rw [readG_stop (.inr rfl)] at he
          exact he l' g2 O' H'.toks (done ++ [(x, v')]) o' ⟨f4, (flow 5 (by omega)).trans e5, hA', hfst, hdone', rest', hO'⟩ ((flow 0 (by omega)).trans e0)
        · refine ih rest' bad' O' H'.toks (done ++ [(x, v')]) l2 g2 K o' (by omega) (hsok.short hsh) (by omega) hr' hbt2 hO' e0 e4 e5 hA' hdone' (by simp; omega) ?_
          intro l' g' O2 tk2 L o2 hR
          rw [hfst] at hR
          exact he l' g' O2 tk2 L o2 hR
      refine key _ _ ?_ ?_ ?_
      · simp [h0]
      · simp [h4]
      · simp
end Go.Proofs.YtalhcaadpgadkaaDoor
