/- Own work, over the shadow machine: JSpec16. -/
import Derived.Test.YtalhcaadpgadkaaDoorSp15
set_option linter.all false
namespace Go.Proofs.YtalhcaadpgadkaaDoor
open Go.Sh
set_option maxRecDepth 100000

theorem clean_tup2 {a b n : Nat} {x y x' y' : GV} (hx : clean a b n x = some x') (hy : clean a b n y = some y') : clean a b (n + 1) (.tup [x, y]) = some (.tup [x', y']) := by
  show (([x, y]).mapM (clean a b n)).map GV.tup = _
  simp only [List.mapM_cons, List.mapM_nil, hx, hy, Option.bind_eq_bind, Option.bind_some, Option.pure_def, Option.map_some]

theorem clean_sl {a b n sz : Nat} {xs ys : List GV} {tag : Tag} (h : xs.mapM (clean a b n) = some ys) : ∃ t, clean a b (n + 1) (.sl sz xs tag) = some (.sl sz ys t) :=
  ⟨_, by show (xs.mapM (clean a b n)).map _ = _; rw [h]; rfl⟩

theorem clean_chgs (a b n : Nat) (L : List Chg) : (L.map chgG).mapM (clean a b (n + 2)) = some (L.map chgG) := by
  induction L with
  | nil => rfl
  | cons c L ih =>
    have h1 : clean a b (n + 2) (chgG c) = some (chgG c) := rfl
    rw [List.map_cons, List.mapM_cons, h1, ih]; rfl

theorem clean_els {a b n sz : Nat} {v : GV} {xs ys : List GV} (hv : Elems sz v xs) (h : xs.mapM (clean a b (n + 1)) = some ys) : ∃ v', clean a b (n + 2) v = some v' ∧ Elems sz v' ys := by
  cases hv with
  | nil =>
    have : ys = [] := by simpa using h.symm
    subst this
    exact ⟨.nilsl, rfl, .nil⟩
  | sl xs t =>
    obtain ⟨t', ht⟩ := clean_sl (sz := sz) (tag := t) h
    exact ⟨_, ht, .sl _ _⟩

theorem clean_sp (a b n : Nat) (p : SP) (hp : SOk p) : ∃ p' : SP, clean a b (n + 4) (spG p) = some (spG p') ∧ p'.1 = p.1 ∧ SOk p' := by
  obtain ⟨x, v⟩ := p
  obtain ⟨v', h1, h2⟩ := clean_els (n := n + 1) hp.el (clean_chgs a b n x.chs)
  refine ⟨(x, v'), ?_, rfl, ⟨hp.fit, h2, hp.chs⟩⟩
  show ((stpC x v).mapM (clean a b (n + 3))).map GV.agg = _
  have e : ∀ (k : IntKind) (m : Int), clean a b (n + 3) (.int k m) = some (.int k m) := fun _ _ => rfl
  simp only [stpC, List.mapM_cons, List.mapM_nil, e, h1, Option.bind_eq_bind, Option.bind_some, Option.pure_def, Option.map_some]
  rfl

theorem clean_sps (a b n : Nat) : ∀ (L : List SP), (∀ p ∈ L, SOk p) → ∃ L' : List SP, (L.map spG).mapM (clean a b (n + 4)) = some (L'.map spG) ∧ L'.map (·.1) = L.map (·.1) ∧ ∀ p ∈ L', SOk p
  | [], _ => ⟨[], rfl, rfl, fun p hp => by cases hp⟩
  | p :: L, h => by
    obtain ⟨p', h1, h2, h3⟩ := clean_sp a b n p (h p (by simp))
    obtain ⟨L', h4, h5, h6⟩ := clean_sps a b n L (fun q hq => h q (by simp [hq]))
    refine ⟨p' :: L', ?_, by simp [h2, h5], fun q hq => ?_⟩
    · rw [List.map_cons, List.mapM_cons, h1, h4]; rfl
    · rcases List.mem_cons.1 hq with rfl | hq
      · exact h3
      · exact h6 q hq

theorem allOk_eq (L : List SP) : allOk L = (L.map (·.1)).all Stp.okB := by
  simp [allOk, List.all_map, Function.comp_def]

/-- What reading a script comes to. -/
def ReadsTo (s : List UInt8) (H : GH) (r : GV × GH) : Prop :=
  (readL s = none ∧ r = (.tup [.nilsl, .int .i64 2], H)) ∨ ∃ (L : List SP) (v : GV), readL s = some (L.map (·.1)) ∧ (∀ p ∈ L, SOk p) ∧ Elems 8 v (L.map spG) ∧ r = (.tup [v, .int .i64 0], H)

theorem script_Read (s : List UInt8) (hsh : shortL s) (hs : s.length ≤ 4000000) (hlen : (readG (s.length + 1) s false []).1.length ≤ 1000) (H : GH) : optW (ecall T f_script_Read [.str (mkB s)] H) (ReadsTo s H) := by
  rw [ecall_1 T_script_Read rfl (by simp [F_script_Read]), wp_fin1]
  simp only [F_script_Read, b_script_Read]
  simp [gFill, setPart, GH.newObj]
  rw [wp_seqK, wp_blockK]
  refine read_loop H.objs.length H.objs.length H.toks.length (Nat.le_refl _) (.str (mkB s)) (s.length + 1) s false _ _ [] _ _ _ .nilsl (by omega) hsh hs (by simp) (Nat.le_refl _) (by simp) ?_ ?_ ?_ .nil (fun p hp => by cases hp) (by simp; omega) ?_
  · simp
  · simp
  · simp
  · intro l' g' O' tk' L o' ⟨r4, r5, rA, rf, rok, rest, rO⟩ e0
    simp only [List.map_nil] at rf rO
    have hLl : L.length ≤ 1000 := by
      have := congrArg List.length rf
      rw [List.length_map] at this
      omega
    have htx := script_Text L hLl rok o' rA.elems ⟨O', tk', H.objs.length, H.toks.length⟩
    have hE := rA.elems
    have hok := hE.ok
    have hu := elemsUnbox hE
    have hn : clean H.objs.length H.toks.length 100 (.tup [.nilsl, .int .i64 2]) = some (.tup [.nilsl, .int .i64 2]) := rfl
    have hrl : readL s = if (readG (s.length + 1) s false []).2 = false ∧ (readG (s.length + 1) s false []).1.all Stp.okB = true ∧ textL (readG (s.length + 1) s false []).1 = s then some (readG (s.length + 1) s false []).1 else none := rfl
    rw [← rf, ← allOk_eq] at hrl
    obtain ⟨bd, hbd⟩ : ∃ b, (readG (s.length + 1) s false []).2 = b := ⟨_, rfl⟩
    rw [hbd] at rO hrl
    cases bd with
    | true =>
      have hno : readL s = none := by rw [hrl, if_neg (fun h => by cases h.1)]
      cases hal : allOk L <;> rw [hal] at htx
      · simp [r4, r5, e0, htx, rO, hu, hok, hn]
        exact .inl ⟨hno, rfl⟩
      · simp [r4, r5, e0, htx, rO, hu, hok, hn]
        exact .inl ⟨hno, rfl⟩
    | false =>
      cases hal : allOk L with
      | false =>
        rw [hal] at htx hrl
        have hno : readL s = none := by rw [hrl, if_neg (fun h => by cases h.2.1)]
        simp [r4, r5, e0, htx, rO, hu, hok, hn]
        exact .inl ⟨hno, rfl⟩
      | true =>
        rw [hal] at htx hrl
        have htl : txtL L = textL (L.map (·.1)) := by simp [txtL, hal]
        rw [htl] at htx
        by_cases ht : textL (L.map (·.1)) = s
        · have hyes : readL s = some (L.map (·.1)) := by rw [hrl, if_pos ⟨rfl, rfl, ht⟩]
          obtain ⟨L', h4, h5, h6⟩ := clean_sps H.objs.length H.toks.length 94 L rok
          obtain ⟨v', h7, h8⟩ := clean_els (n := 97) hE h4
          have hcl : clean H.objs.length H.toks.length 100 (.tup [o', .int .i64 0]) = some (.tup [v', .int .i64 0]) := clean_tup2 (n := 99) h7 rfl
          simp [r4, r5, e0, htx, rO, hu, hok, ht, hcl]
          exact .inr ⟨L', v', by rw [hyes, h5], h6, h8, rfl⟩
        · have hno : readL s = none := by rw [hrl, if_neg (fun h => ht h.2.2)]
          simp [r4, r5, e0, htx, rO, hu, hok, ht, hn]
          exact .inl ⟨hno, rfl⟩
end Go.Proofs.YtalhcaadpgadkaaDoor
