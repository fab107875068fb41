/- Own work, over the shadow machine: SSpec21. -/
import Derived.Test.YtalhcaadpgadkaaGreatDoorSp20
set_option linter.all false
namespace Go.Proofs.YtalhcaadpgadkaaGreatDoor
open Go.Sh
set_option maxRecDepth 100000

/-! ## The document's text of steps -/

theorem numsL_bounds {x : Stp} : (numsL x).length ≤ 6 := by
  have := (ownL_in x.k).1
  simp only [numsL, List.length_append, List.length_map]
  split <;> simp <;> omega

theorem tnums_loop (ns : List Int) (hns : ns.length ≤ 6) (v : GV) (hv : Elems 1 v (ns.map fun n => .int .i64 n)) (out : List UInt8) (hout : out.length ≤ 50000000) (l0 : List GV) (g0 : Nat) (H0 : GH) (K : GExit × St → Prop)
    (h40 : lget l0 40 = v) (h41 : lget l0 41 = .int .i64 ns.length) (h42 : lget l0 42 = .int .i64 0) (h4 : lget l0 4 = .str (mkB out))
    (he : ∀ l g, ns.all okN = true → lget l 4 = .str (mkB (out ++ ns.flatMap fun n => 32 :: Lib.itoa n)) → Fr L0_hedgerowref29_Text l0 l → K (.exit 2, ⟨⟨l, g⟩, H0⟩))
    (hr : ∀ l g, ns.all okN = false → lget l 2 = .str ⟨#[]⟩ → lget l 3 = .bool false → K (.ret, ⟨⟨l, g⟩, H0⟩)) :
    optW (erun T (.loop L0_hedgerowref29_Text) ⟨⟨l0, g0⟩, H0⟩) K := by
  have hm : ns = ns.map id := by simp
  refine range_loop (T := T) (n := ns.length) (A := List UInt8) (fun _ a => [(4, .str (mkB a))]) (fun i a _ H => H = H0 ∧ a = out ++ (ns.take i).flatMap (fun n => 32 :: Lib.itoa n) ∧ (ns.take i).all okN = true) (c := 43) (b := 2) (I := 42) (N := 41) (d := 57) rfl (by omega) (by decide) ⟨rfl, rfl⟩ (by simp) ?_ ?_ 0 out l0 g0 H0 (by omega) ⟨rfl, by simp, by simp⟩ (by simp [h4]) (.refl _ _ _) h42 h41
  · intro i a l g H hi ⟨hH, ha, hall⟩ hh hf hI
    subst hH
    have h40' := hf.get 40 rfl h40 rfl
    obtain ⟨lt, ix, opt, get, ⟨t, sl⟩, wr_, mem⟩ := at_ok (e := fun n => GV.int .i64 n) hv hi (by omega)
    generalize ns[i]'hi = n at opt get mem
    rw [sl] at h40'
    simp only [Holds_cons, Holds_nil, and_true] at hh
    have htake : ns.take (i + 1) = ns.take i ++ [n] := by rw [List.take_add_one, opt]; rfl
    by_cases hok : okN n = true
    · have hok' := hok
      simp only [okN, decide_eq_true_eq] at hok'
      have hd := fun H => ref_Digits n (by omega) (by omega) H
      simp only [mk_mkB] at hd
      have hlen : a.length ≤ out.length + 6 * 21 := by
        rw [ha, List.length_append]
        have h1 := flat_len 32 20 ((ns.take i).map Lib.itoa) (fun w hw => by
          obtain ⟨m, hm, rfl⟩ := List.mem_map.1 hw
          have := List.all_eq_true.1 hall m hm
          simp only [okN, decide_eq_true_eq] at this
          exact itoa_len9 m (by omega) (by omega))
        simp only [List.flatMap_map, List.length_map, List.length_take] at h1
        omega
      have hil := itoa_len9 n (by omega) (by omega)
      have e1 := catB (a := a) (b := [32]) (by simp; omega)
      have e2 := catB (a := a ++ [32]) (b := Lib.itoa n) (by simp; omega)
      have e3 : mkB [32] = (⟨#[32]⟩ : ByteArray) := rfl
      rw [e3] at e1
      have b1 : ¬ n < -999999999 := by omega
      have b2 : ¬ 999999999 < n := by omega
      have hall' : (ns.take (i + 1)).all okN = true := by rw [htake, List.all_append, hall]; simp [hok]
      simp [h40', hI, hh, ix, opt, get, b1, b2, hd, e1, e2]
      intro hf'
      exact ⟨by rw [htake]; simp [ha], by simpa using hall'⟩
    · have hall' : ns.all okN = false := by
        rw [Bool.eq_false_iff]
        intro h
        exact hok (List.all_eq_true.1 h n mem)
      by_cases b1 : n < -999999999
      · simp [h40', hI, hh, ix, opt, get, b1]
        exact fun _ => hr _ _ hall' (by simp) (by simp)
      · have b2 : 999999999 < n := by simp only [okN, decide_eq_true_eq] at hok; omega
        simp [h40', hI, hh, ix, opt, get, b1, b2]
        exact fun _ => hr _ _ hall' (by simp) (by simp)
  · intro a l g H ⟨hH, ha, hall⟩ hh hf
    subst hH
    simp only [List.take_length] at ha hall
    simp only [Holds_cons, Holds_nil, and_true] at hh
    exact he l g hall (by rw [hh, ha]) hf

theorem tchs_loop (cs : List Chg) (hcs : cs.length ≤ 1000) (hfit : ∀ c ∈ cs, CFit c) (v : GV) (hv : Elems 9 v (cs.map chgG)) (out : List UInt8) (hout : out.length ≤ 50000000) (l0 : List GV) (g0 : Nat) (H0 : GH) (K : GExit × St → Prop)
    (h71 : lget l0 71 = v) (h72 : lget l0 72 = .int .i64 cs.length) (h73 : lget l0 73 = .int .i64 0) (h4 : lget l0 4 = .str (mkB out))
    (he : ∀ l g, cs.all Chg.okB = true → lget l 4 = .str (mkB (out ++ cs.flatMap fun c => c.text ++ [10])) → Fr L1_hedgerowref29_Text l0 l → K (.exit 4, ⟨⟨l, g⟩, H0⟩))
    (hr : ∀ l g, cs.all Chg.okB = false → lget l 2 = .str ⟨#[]⟩ → lget l 3 = .bool false → K (.ret, ⟨⟨l, g⟩, H0⟩)) :
    optW (erun T (.loop L1_hedgerowref29_Text) ⟨⟨l0, g0⟩, H0⟩) K := by
  refine range_loop (T := T) (n := cs.length) (A := List UInt8) (fun _ a => [(4, .str (mkB a))]) (fun i a _ H => H = H0 ∧ a = out ++ (cs.take i).flatMap (fun c => c.text ++ [10]) ∧ (cs.take i).all Chg.okB = true) (c := 74) (b := 4) (I := 73) (N := 72) (d := 88) rfl (by omega) (by decide) ⟨rfl, rfl⟩ (by simp) ?_ ?_ 0 out l0 g0 H0 (by omega) ⟨rfl, by simp, by simp⟩ (by simp [h4]) (.refl _ _ _) h73 h72
  · intro i a l g H hi ⟨hH, ha, hall⟩ hh hf hI
    subst hH
    have h71' := hf.get 71 rfl h71 (by simp [hv.boxy])
    obtain ⟨lt, ix, opt, get, ⟨t, sl⟩, wr_, mem⟩ := at_ok (e := chgG) hv hi (by omega)
    generalize cs[i]'hi = c at opt get mem
    rw [sl] at h71'
    simp only [Holds_cons, Holds_nil, and_true] at hh
    have htake : cs.take (i + 1) = cs.take i ++ [c] := by rw [List.take_add_one, opt]; rfl
    have hc := ref_Change c (hfit c mem) H
    cases hok : c.okB with
    | true =>
      have hlen : a.length ≤ out.length + 1000 * 301 := by
        rw [ha, List.length_append]
        have h1 := flat_len 10 300 ((cs.take i).map Chg.text) (fun w hw => by
          obtain ⟨m, hm, rfl⟩ := List.mem_map.1 hw
          exact (chg_text10 (List.all_eq_true.1 hall m hm)).2)
        have h2 : ∀ L : List Chg, (L.flatMap fun c => c.text ++ [10]).length = ((L.map Chg.text).flatMap (fun v => 10 :: v)).length := by
          intro L; induction L with
          | nil => rfl
          | cons c L ih => simp only [List.flatMap_cons, List.map_cons, List.length_append, List.length_cons, List.length_nil, ih]
        rw [h2]
        simp only [List.length_map, List.length_take] at h1
        have : min i cs.length ≤ 1000 := by omega
        have := Nat.mul_le_mul this (Nat.le_refl (300 + 1))
        omega
      have hcl := (chg_text10 hok).2
      rw [chgTx, hok, if_pos rfl] at hc
      simp only [chgG, chgC] at hc
      have e1 := catB (a := a) (b := c.text) (by omega)
      have e2 := catB (a := a ++ c.text) (b := [10]) (by simp; omega)
      have e3 : mkB [10] = (⟨#[10]⟩ : ByteArray) := rfl
      rw [e3] at e2
      have hall' : (cs.take (i + 1)).all Chg.okB = true := by rw [htake, List.all_append, hall]; simp [hok]
      simp [h71', hI, hh, ix, opt, get, setPart, chgG, chgC, hc, e1, e2]
      intro hf'
      exact ⟨by rw [htake]; simp [ha], by simpa using hall'⟩
    | false =>
      have hall' : cs.all Chg.okB = false := by
        rw [Bool.eq_false_iff]
        intro h
        rw [List.all_eq_true.1 h c mem] at hok; cases hok
      rw [chgTx, hok] at hc
      simp only [chgG, chgC] at hc
      simp [h71', hI, hh, ix, opt, get, setPart, chgG, chgC, hc]
      exact fun _ => hr _ _ hall' (by simp) (by simp)
  · intro a l g H ⟨hH, ha, hall⟩ hh hf
    subst hH
    simp only [List.take_length] at ha hall
    simp only [Holds_cons, Holds_nil, and_true] at hh
    exact he l g hall (by rw [hh, ha]) hf
end Go.Proofs.YtalhcaadpgadkaaGreatDoor
