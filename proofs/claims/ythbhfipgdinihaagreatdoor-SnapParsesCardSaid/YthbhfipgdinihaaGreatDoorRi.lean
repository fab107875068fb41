/- Own work: the shadow machine and what it shows, part Ri. -/
import Derived.Test.YthbhfipgdinihaaGreatDoorFe
set_option linter.all false

namespace Go.Proofs.YthbhfipgdinihaaGreatDoor
open Go.Sh
set_option maxRecDepth 100000

def rEnt (kv : List Int) (x : El) (L : List Ent) (j : Nat) : Bool :=
  let e := L.getD j default
  let q := L.getD (j - 1) default
  mayB (if 4 ≤ x.k then 3 else 1) x e.k e.n e.t && (decide (0 ≤ e.r ∧ e.r ≤ 15 ∧ 1 ≤ e.c ∧ e.c ≤ at16 kv e.r) && (decide (j = 0) || firstD q.r q.c e.r e.c))
def rItm (kv : List Int) (I : List Itm) (k : Nat) : Bool :=
  let p := I.getD k default
  decide (0 < p.L.length) && ((decide (k = 0) || lessE (I.getD (k - 1) default).x p.x) && (List.range p.L.length).all (rEnt kv p.x p.L))

theorem mayB_elemV {op : Int} {x : El} {k n : Int} {t : List UInt8} (h : mayB op x k n t = true) : elemV x.k x.a x.b x.c x.d = true := by
  simp only [mayB, Bool.and_eq_true] at h; exact h.1

theorem op_same {x : El} (h : elemV x.k x.a x.b x.c x.d = true) : (if x.k = 4 ∨ x.k = 5 then (3 : Int) else 1) = if 4 ≤ x.k then 3 else 1 := by
  have := (kept_iff h).1
  by_cases h4 : 4 ≤ x.k
  · rw [if_pos h4, if_pos (by simpa [h4] using this)]
  · rw [if_neg h4, if_neg (by simpa [h4] using this)]

theorem at16_le {kv : List Int} (hb : vecB kv = true) (r : Int) : at16 kv r ≤ 1048576 := by
  unfold at16
  rcases Nat.lt_or_ge r.toNat kv.length with h | h
  · have := List.all_eq_true.1 hb _ (List.getElem_mem h)
    simp only [decide_eq_true_eq] at this
    rw [List.getD_eq_getElem?_getD, List.getElem?_eq_getElem h]
    simp; omega
  · rw [List.getD_eq_getElem?_getD, List.getElem?_eq_none h]; simp

theorem rItm_eq {kv : List Int} (hb : vecB kv = true) (I : List Itm) (k : Nat) : rItm kv I k = itAt kv I k := by
  unfold rItm itAt itemB
  generalize hp : I.getD k default = p
  generalize I.getD (k - 1) default = q
  simp only
  rw [Bool.eq_iff_iff]
  simp only [Bool.and_eq_true, okPutB, lessE, List.all_eq_true, List.mem_range, decide_eq_true_eq]
  constructor
  · rintro ⟨h1, h2, h3⟩
    have e0 := h3 0 h1
    simp only [rEnt, Bool.and_eq_true] at e0
    have hel := mayB_elemV e0.1
    refine ⟨⟨h1, ⟨hel, fun j hj => ?_⟩, fun e he => ?_⟩, h2⟩
    · have ej := h3 j hj
      simp only [rEnt, Bool.and_eq_true, decide_eq_true_eq] at ej
      obtain ⟨m1, ⟨r1, r2, r3, r4⟩, m3⟩ := ej
      have := at16_le hb (p.L.getD j default).r
      simp only [okAt, entryB, Bool.and_eq_true, op_same hel]
      refine ⟨⟨by simp only [dotB, decide_eq_true_eq]; omega, m1⟩, ?_⟩
      rcases (Bool.or_eq_true _ _).mp m3 with m | m
      · rw [m]; rfl
      · have := (ordD_first (p.L.getD (j - 1) default) (p.L.getD j default)).2 m
        rw [decide_eq_true this]; simp
    · obtain ⟨j, hj, rfl⟩ := List.mem_iff_getElem.1 he
      have ej := h3 j hj
      have hg : p.L.getD j default = p.L[j] := by rw [List.getD_eq_getElem?_getD, List.getElem?_eq_getElem hj]; rfl
      simp only [rEnt, hg, Bool.and_eq_true, decide_eq_true_eq] at ej
      obtain ⟨m1, ⟨r1, r2, r3, r4⟩, m3⟩ := ej
      have := at16_le hb p.L[j].r
      simp only [knowsB, dotB, Bool.and_eq_true, decide_eq_true_eq]
      omega
  · rintro ⟨⟨h1, ⟨hel, h3⟩, h4⟩, h2⟩
    refine ⟨h1, h2, fun j hj => ?_⟩
    have ej := h3 j hj
    simp only [okAt, entryB, Bool.and_eq_true, op_same hel] at ej
    obtain ⟨⟨m1, m2⟩, m3⟩ := ej
    have hg : p.L.getD j default = p.L[j] := by rw [List.getD_eq_getElem?_getD, List.getElem?_eq_getElem hj]; rfl
    have hk := h4 p.L[j] (List.getElem_mem hj)
    rw [← hg] at hk
    simp only [knowsB, dotB, Bool.and_eq_true, decide_eq_true_eq] at hk
    simp only [rEnt, Bool.and_eq_true, decide_eq_true_eq]
    refine ⟨m2, by omega, ?_⟩
    rcases (Bool.or_eq_true _ _).mp m3 with m | m
    · rw [m]; rfl
    · have := (ordD_first (p.L.getD (j - 1) default) (p.L.getD j default)).1 (by simpa using m)
      rw [this]; simp

section
variable {kv : List Int} (hk : kv.length = 16) (vi ve : GV)
include hk
theorem sn_at {r : Int} (h0 : 0 ≤ r) (h1 : r < 16) : (snC kv vi ve)[r.toNat]? = some (.int .i64 (at16 kv r)) := by
  have h2 := vec_at hk h0 h1
  unfold snC
  rw [List.getElem?_append_left (by simp [hk]; omega)]
  exact h2
end

set_option maxHeartbeats 2000000 in
theorem right_entries (kv : List Int) (hk : kv.length = 16) (vi ve : GV) (x : El) (hx : ElFit x) (L : List Ent) (hL : L.length ≤ 100000) (hfit : ∀ e ∈ L, EntFit e) (v : GV) (hv : Elems 5 v (L.map entG)) (l0 : List GV) (g0 : Nat) (H0 : GH) (K : GExit × St → Prop) (g1 g6 : Nat)
    (h54 : lget l0 54 = v) (h55 : lget l0 55 = .int .i64 L.length) (h56 : lget l0 56 = .int .i64 0) (h1 : lget l0 1 = .lbox g1 (snC kv vi ve)) (h6 : lget l0 6 = .lbox g6 (itemC x v))
    (he : ∀ l g, (List.range L.length).all (rEnt kv x L) = true → lget l 1 = .lbox g1 (snC kv vi ve) → Fr L1_hedgerowlaw12_right l0 l → K (.exit 4, ⟨⟨l, g⟩, H0⟩))
    (hr : ∀ l g, (List.range L.length).all (rEnt kv x L) = false → lget l 2 = .bool false → K (.ret, ⟨⟨l, g⟩, H0⟩)) :
    optW (erun T (.loop L1_hedgerowlaw12_right) ⟨⟨l0, g0⟩, H0⟩) K := by
  have sl := sn_len hk vi ve
  refine range_loop (T := T) (n := L.length) (A := Unit) (fun _ _ => [(1, .lbox g1 (snC kv vi ve)), (6, .lbox g6 (itemC x v))]) (fun i _ _ H' => H' = H0 ∧ (List.range i).all (rEnt kv x L) = true) (c := 57) (b := 4) (I := 56) (N := 55) (d := 120) rfl (by omega) (by decide) ⟨rfl, rfl⟩ (by simp) ?_ ?_ 0 () _ _ H0 (by omega) ⟨rfl, rfl⟩ (by simp [h1, h6]) (.refl _ _ _) h56 h55
  · intro i a l g H' hi ⟨hH, hall⟩ hh hf hI
    subst hH
    have h54' := hf.get 54 rfl h54 (by simp [hv.boxy])
    obtain ⟨lt, ix, opt, get, ⟨t, sv⟩, wr_, mem⟩ := at_ok (e := entG) hv hi (by omega)
    generalize L[i]'hi = e at opt get mem
    have hfe := hfit e mem
    have hgd : L.getD i default = e := by simp [List.getD, opt]
    have hch := fun op H => ref_Change op x e.k e.n e.t hx (by have := hfe.t; omega) H
    simp only [chC, elC, List.cons_append, List.nil_append] at hch
    simp only [Holds_cons, Holds_nil, and_true] at hh
    obtain ⟨hh1, hh6⟩ := hh
    have hbad : rEnt kv x L i = false → (List.range L.length).all (rEnt kv x L) = false := fun h => by
      rw [Bool.eq_false_iff]; intro h'
      rw [List.all_eq_true.1 h' i (List.mem_range.2 hi)] at h; cases h
    have hgood : rEnt kv x L i = true → (List.range (i + 1)).all (rEnt kv x L) = true := fun h => by rw [range_all_succ, hall, h]; rfl
    have hone := hv.one
    subst sv
    simp only [itemC, elC, List.cons_append, List.nil_append] at hh6
    have hE : rEnt kv x L i = (mayB (if 4 ≤ x.k then 3 else 1) x e.k e.n e.t && (decide (0 ≤ e.r ∧ e.r ≤ 15 ∧ 1 ≤ e.c ∧ e.c ≤ at16 kv e.r) && (decide (i = 0) || firstD (L.getD (i - 1) default).r (L.getD (i - 1) default).c e.r e.c))) := by
      simp only [rEnt, hgd]
    by_cases k4 : 4 ≤ x.k
    · rw [if_pos k4] at hE
      have hch1 := fun H => hch 3 H
      cases hm : mayB 3 x e.k e.n e.t with
      | false =>
        rw [hm] at hE hch1
        have hno := hbad (by rw [hE]; rfl)
        simp [h54', hI, hh1, hh6, ix, opt, get, entC, setPart, gFill, k4, hch1, sl]
        exact fun _ => hr _ _ hno (by simp)
      | true =>
        rw [hm] at hE hch1
        by_cases a1 : e.r < 0
        · have hno := hbad (by rw [hE]; simp; omega)
          simp [h54', hI, hh1, hh6, ix, opt, get, entC, setPart, gFill, k4, hch1, sl, a1]
          exact fun _ => hr _ _ hno (by simp)
        by_cases a2 : 15 < e.r
        · have hno := hbad (by rw [hE]; simp; omega)
          simp [h54', hI, hh1, hh6, ix, opt, get, entC, setPart, gFill, k4, hch1, sl, a1, a2]
          exact fun _ => hr _ _ hno (by simp)
        by_cases a3 : e.c < 1
        · have hno := hbad (by rw [hE]; simp; omega)
          simp [h54', hI, hh1, hh6, ix, opt, get, entC, setPart, gFill, k4, hch1, sl, a1, a2, a3]
          exact fun _ => hr _ _ hno (by simp)
        have hi16 := gIx16 (r := e.r) (by omega) (by omega)
        have hat := sn_at hk vi ve (r := e.r) (by omega) (by omega)
        have hat' := get_of hat
        by_cases a4 : at16 kv e.r < e.c
        · have hno := hbad (by rw [hE]; simp; omega)
          simp [h54', hI, hh1, hh6, ix, opt, get, entC, setPart, gFill, k4, hch1, sl, a1, a2, a3, hi16, hat, hat', a4]
          exact fun _ => hr _ _ hno (by simp)
        have hrg : decide (0 ≤ e.r ∧ e.r ≤ 15 ∧ 1 ≤ e.c ∧ e.c ≤ at16 kv e.r) = true := by simp; omega
        rw [hrg] at hE
        rcases Nat.eq_zero_or_pos i with rfl | hpos
        · have hyes := hgood (by rw [hE]; simp)
          simp at hI ix
          simp [h54', hI, hh1, hh6, ix, opt, get, entC, setPart, gFill, k4, hch1, sl, a1, a2, a3, hi16, hat, hat', a4]
          exact fun _ => ⟨by simpa using hyes, rfl⟩
        · have hi1 : i - 1 < L.length := by omega
          obtain ⟨lt1, ix1, opt1, get1, _, _, _⟩ := at_ok (e := entG) hv hi1 (by omega)
          generalize L[i - 1]'hi1 = q at opt1 get1
          have hgd1 : L.getD (i - 1) default = q := by simp [List.getD, opt1]
          have hw : IntKind.i64.wrap ((i : Int) - 1) = ((i - 1 : Nat) : Int) := by rw [wrap_i64' (by omega) (by omega)]; omega
          have hpi : (0 : Int) < i := by omega
          have hi0 : decide (i = 0) = false := by simp; omega
          have hfi := fun H => ref_First q.r q.c e.r e.c H
          rw [hgd1, hi0] at hE
          cases hfb : firstD q.r q.c e.r e.c with
          | false =>
            rw [hfb] at hE hfi
            have hno := hbad (by rw [hE]; rfl)
            simp [h54', hI, hh1, hh6, ix, opt, get, entC, setPart, gFill, k4, hch1, sl, a1, a2, a3, hi16, hat, hat', a4, hpi, hpos, hw, ix1, opt1, get1, hfi]
            exact fun _ => hr _ _ hno (by simp)
          | true =>
            rw [hfb] at hE hfi
            have hyes := hgood (by rw [hE]; rfl)
            simp [h54', hI, hh1, hh6, ix, opt, get, entC, setPart, gFill, k4, hch1, sl, a1, a2, a3, hi16, hat, hat', a4, hpi, hpos, hw, ix1, opt1, get1, hfi]
            exact fun _ => ⟨by simpa using hyes, rfl⟩
    · rw [if_neg k4] at hE
      have hch1 := fun H => hch 1 H
      cases hm : mayB 1 x e.k e.n e.t with
      | false =>
        rw [hm] at hE hch1
        have hno := hbad (by rw [hE]; rfl)
        simp [h54', hI, hh1, hh6, ix, opt, get, entC, setPart, gFill, k4, hch1, sl]
        exact fun _ => hr _ _ hno (by simp)
      | true =>
        rw [hm] at hE hch1
        by_cases a1 : e.r < 0
        · have hno := hbad (by rw [hE]; simp; omega)
          simp [h54', hI, hh1, hh6, ix, opt, get, entC, setPart, gFill, k4, hch1, sl, a1]
          exact fun _ => hr _ _ hno (by simp)
        by_cases a2 : 15 < e.r
        · have hno := hbad (by rw [hE]; simp; omega)
          simp [h54', hI, hh1, hh6, ix, opt, get, entC, setPart, gFill, k4, hch1, sl, a1, a2]
          exact fun _ => hr _ _ hno (by simp)
        by_cases a3 : e.c < 1
        · have hno := hbad (by rw [hE]; simp; omega)
          simp [h54', hI, hh1, hh6, ix, opt, get, entC, setPart, gFill, k4, hch1, sl, a1, a2, a3]
          exact fun _ => hr _ _ hno (by simp)
        have hi16 := gIx16 (r := e.r) (by omega) (by omega)
        have hat := sn_at hk vi ve (r := e.r) (by omega) (by omega)
        have hat' := get_of hat
        by_cases a4 : at16 kv e.r < e.c
        · have hno := hbad (by rw [hE]; simp; omega)
          simp [h54', hI, hh1, hh6, ix, opt, get, entC, setPart, gFill, k4, hch1, sl, a1, a2, a3, hi16, hat, hat', a4]
          exact fun _ => hr _ _ hno (by simp)
        have hrg : decide (0 ≤ e.r ∧ e.r ≤ 15 ∧ 1 ≤ e.c ∧ e.c ≤ at16 kv e.r) = true := by simp; omega
        rw [hrg] at hE
        rcases Nat.eq_zero_or_pos i with rfl | hpos
        · have hyes := hgood (by rw [hE]; simp)
          simp at hI ix
          simp [h54', hI, hh1, hh6, ix, opt, get, entC, setPart, gFill, k4, hch1, sl, a1, a2, a3, hi16, hat, hat', a4]
          exact fun _ => ⟨by simpa using hyes, rfl⟩
        · have hi1 : i - 1 < L.length := by omega
          obtain ⟨lt1, ix1, opt1, get1, _, _, _⟩ := at_ok (e := entG) hv hi1 (by omega)
          generalize L[i - 1]'hi1 = q at opt1 get1
          have hgd1 : L.getD (i - 1) default = q := by simp [List.getD, opt1]
          have hw : IntKind.i64.wrap ((i : Int) - 1) = ((i - 1 : Nat) : Int) := by rw [wrap_i64' (by omega) (by omega)]; omega
          have hpi : (0 : Int) < i := by omega
          have hi0 : decide (i = 0) = false := by simp; omega
          have hfi := fun H => ref_First q.r q.c e.r e.c H
          rw [hgd1, hi0] at hE
          cases hfb : firstD q.r q.c e.r e.c with
          | false =>
            rw [hfb] at hE hfi
            have hno := hbad (by rw [hE]; rfl)
            simp [h54', hI, hh1, hh6, ix, opt, get, entC, setPart, gFill, k4, hch1, sl, a1, a2, a3, hi16, hat, hat', a4, hpi, hpos, hw, ix1, opt1, get1, hfi]
            exact fun _ => hr _ _ hno (by simp)
          | true =>
            rw [hfb] at hE hfi
            have hyes := hgood (by rw [hE]; rfl)
            simp [h54', hI, hh1, hh6, ix, opt, get, entC, setPart, gFill, k4, hch1, sl, a1, a2, a3, hi16, hat, hat', a4, hpi, hpos, hw, ix1, opt1, get1, hfi]
            exact fun _ => ⟨by simpa using hyes, rfl⟩
  · intro a l g H' ⟨hH, hall⟩ hh hf
    subst hH
    simp only [Holds_cons, Holds_nil, and_true] at hh
    exact he l g hall hh.1 hf

set_option maxHeartbeats 1000000 in
theorem right_itemsL (kv : List Int) (hk : kv.length = 16) (I : List IP) (hI : I.length ≤ 100000) (hok : ∀ p ∈ I, IOk p) (vi ve : GV) (hvi : Elems 6 vi (I.map ipG)) (l0 : List GV) (g0 : Nat) (H0 : GH) (K : GExit × St → Prop)
    (h25 : lget l0 25 = vi) (h26 : lget l0 26 = .int .i64 I.length) (h27 : lget l0 27 = .int .i64 0) (g1 : Nat) (h1 : lget l0 1 = .lbox g1 (snC kv vi ve))
    (he : ∀ l g, (List.range I.length).all (rItm kv (I.map (·.1))) = true → lget l 1 = .lbox g1 (snC kv vi ve) → K (.exit 2, ⟨⟨l, g⟩, H0⟩))
    (hr : ∀ l g, (List.range I.length).all (rItm kv (I.map (·.1))) = false → lget l 2 = .bool false → K (.ret, ⟨⟨l, g⟩, H0⟩)) :
    optW (erun T (.loop L2_hedgerowlaw12_right) ⟨⟨l0, g0⟩, H0⟩) K := by
  have s16 := sn_16 hk vi ve
  have s16' := sn_16' hk vi ve
  have sl := sn_len hk vi ve
  refine range_loop (T := T) (n := I.length) (A := Unit) (fun _ _ => [(1, .lbox g1 (snC kv vi ve))]) (fun i _ _ H' => H' = H0 ∧ (List.range i).all (rItm kv (I.map (·.1))) = true) (c := 28) (b := 2) (I := 27) (N := 26) (d := 121) rfl (by omega) (by decide) ⟨rfl, rfl⟩ (by simp) ?_ ?_ 0 () _ _ H0 (by omega) ⟨rfl, rfl⟩ (by simp [h1]) (.refl _ _ _) h27 h26
  · intro i a l g H' hi ⟨hH, hall⟩ hh hf hIx
    subst hH
    have h25' := hf.get 25 rfl h25 (by simp [hvi.boxy])
    obtain ⟨lt, ix, opt, get, ⟨t, sv⟩, wr_, mem⟩ := at_ok (e := ipG) hvi hi (by omega)
    generalize I[i]'hi = p at opt get mem
    obtain ⟨hx, hrg, hL, hfit, hel⟩ := hok p mem
    have hgd : (I.map (·.1)).getD i default = p.1 := by simp [List.getD, opt]
    simp only [Holds_cons, Holds_nil, and_true] at hh
    have hbad : rItm kv (I.map (·.1)) i = false → (List.range I.length).all (rItm kv (I.map (·.1))) = false := fun h => by
      rw [Bool.eq_false_iff]; intro h'
      rw [List.all_eq_true.1 h' i (List.mem_range.2 hi)] at h; cases h
    have hgood : rItm kv (I.map (·.1)) i = true → (List.range (i + 1)).all (rItm kv (I.map (·.1))) = true := fun h => by rw [range_all_succ, hall, h]; rfl
    have hE : rItm kv (I.map (·.1)) i = (decide (0 < p.1.L.length) && ((decide (i = 0) || lessE ((I.map (·.1)).getD (i - 1) default).x p.1.x) && (List.range p.1.L.length).all (rEnt kv p.1.x p.1.L))) := by
      simp only [rItm, hgd]
    have hone := hel.one
    have hcel := hel.cells
    have hokk := hel.ok
    have hle := hel.len
    have hue := elemsUnbox hel
    simp only [List.length_map] at hle
    rw [sv] at h25'
    rcases Nat.eq_zero_or_pos p.1.L.length with hz | hz
    · have hz' : (p.1.L.length : Int) = 0 := by omega
      have hzn : p.1.L = [] := List.eq_nil_of_length_eq_zero hz
      have hno := hbad (by rw [hE]; simp [hzn])
      simp [h25', hIx, hh, ix, opt, get, itemC, elC, setPart, hone, hokk, hle, hue, hz', hz, hzn]
      exact fun _ => hr _ _ hno (by simp)
    have hz' : ¬ (p.1.L.length : Int) = 0 := by omega
    have hz'' : ¬ p.1.L.length = 0 := by omega
    have hzn : ¬ p.1.L = [] := fun h => by rw [h] at hz; simp at hz
    have hpz : decide (0 < p.1.L.length) = true := by simpa using hz
    rw [hpz, Bool.true_and] at hE
    rcases Nat.eq_zero_or_pos i with rfl | hpos
    · simp at hIx ix
      simp [h25', hIx, hh, ix, opt, get, itemC, elC, setPart, hone, hokk, hle, hue, hz', hz'', hzn]
      rw [wp_blockK, wp_blockK]
      refine right_entries kv hk vi ve p.1.x hx p.1.L hL hfit p.2 hel _ _ H' _ g1 _ (by simp [hue]) (by simp) (by simp) (by simp [hh]) (by simp [itemC, elC]; rfl) ?_ ?_
      · intro l2 g2 h2 k1 _
        have hyes := hgood (by rw [hE, h2]; simp)
        simp [k1]
        exact fun _ => by simpa using hyes
      · intro l2 g2 h2 k2
        have hno := hbad (by rw [hE, h2]; simp)
        simp
        exact fun _ => hr _ _ hno k2
    · have hi1 : i - 1 < I.length := by omega
      obtain ⟨lt1, ix1, opt1, get1, _, _, _⟩ := at_ok (e := ipG) hvi hi1 (by omega)
      generalize I[i - 1]'hi1 = q at opt1 get1
      have hgd1 : (I.map (·.1)).getD (i - 1) default = q.1 := by simp [List.getD, opt1]
      have hw : IntKind.i64.wrap ((i : Int) - 1) = ((i - 1 : Nat) : Int) := by rw [wrap_i64' (by omega) (by omega)]; omega
      have hpi : (0 : Int) < i := by omega
      have hi0 : decide (i = 0) = false := by simp; omega
      have hfi := fun H => ref_Less q.1.x p.1.x H
      simp only [elC] at hfi
      rw [hgd1, hi0, Bool.false_or] at hE
      subst sv
      cases hfb : lessE q.1.x p.1.x with
      | false =>
        rw [hfb] at hE hfi
        have hno := hbad (by rw [hE]; rfl)
        simp [h25', hIx, hh, ix, opt, get, itemC, elC, setPart, hone, hokk, hle, hue, hz', hz'', hzn, hpi, hpos, hw, s16, s16', sl, ix1, opt1, get1, hfi]
        exact fun _ => hr _ _ hno (by simp)
      | true =>
        rw [hfb] at hE hfi
        simp [h25', hIx, hh, ix, opt, get, itemC, elC, setPart, hone, hokk, hle, hue, hz', hz'', hzn, hpi, hpos, hw, s16, s16', sl, ix1, opt1, get1, hfi]
        rw [wp_blockK, wp_blockK]
        refine right_entries kv hk (.sl 6 (List.map ipG I) t) ve p.1.x hx p.1.L hL hfit p.2 hel _ _ H' _ g1 _ (by simp [hue]) (by simp) (by simp) (by simp [hh]) (by simp [itemC, elC]; rfl) ?_ ?_
        · intro l2 g2 h2 k1 _
          have hyes := hgood (by rw [hE, h2]; simp)
          simp [k1]
          exact fun _ => by simpa using hyes
        · intro l2 g2 h2 k2
          have hno := hbad (by rw [hE, h2]; simp)
          simp
          exact fun _ => hr _ _ hno k2
  · intro a l g H' ⟨hH, hall⟩ hh hf
    subst hH
    simp only [Holds_cons, Holds_nil, and_true] at hh
    exact he l g hall hh

theorem right_nums (kv : List Int) (hk : kv.length = 16) (l0 : List GV) (g0 : Nat) (H0 : GH) (K : GExit × St → Prop) (bx : GV) (g1 : Nat) (cs : List GV) (hbx : bx = .lbox g1 cs)
    (h13 : lget l0 13 = .agg (kv.map fun n => GV.int .i64 n)) (h14 : lget l0 14 = .int .i64 0) (h1 : lget l0 1 = bx)
    (he : ∀ l g, vecB kv = true → lget l 1 = bx → K (.exit 0, ⟨⟨l, g⟩, H0⟩))
    (hr : ∀ l g, vecB kv = false → lget l 2 = .bool false → K (.ret, ⟨⟨l, g⟩, H0⟩)) :
    optW (erun T (.loop L0_hedgerowlaw12_right) ⟨⟨l0, g0⟩, H0⟩) K := by
  subst hbx
  refine range_loop_c (T := T) (n := 16) (A := Unit) (fun _ _ => [(1, .lbox g1 cs)]) (fun i _ _ H' => H' = H0 ∧ vecB (kv.take i) = true) (c := 15) (b := 0) (I := 14) (d := 23) rfl (by omega) (by decide) rfl (by simp) ?_ ?_ 0 () _ _ H0 (by omega) ⟨rfl, rfl⟩ (by simp [h1]) (.refl _ _ _) h14
  · intro i a l g H' hi ⟨hH, hall⟩ hh hf hI
    subst hH
    have h13' := hf.get 13 rfl h13 rfl
    simp only [Holds_cons, Holds_nil, and_true] at hh
    have hlt : i < kv.length := by rw [hk]; exact hi
    have hix : gIx 16 (.int .i64 (i : Int)) = some i := by simp only [gIx]; rw [if_pos (by omega)]; simp
    have hg : kv[i]? = some kv[i] := List.getElem?_eq_getElem hlt
    have htake : kv.take (i + 1) = kv.take i ++ [kv[i]] := by rw [List.take_add_one, hg]; rfl
    generalize kv[i] = n at hg htake
    have hbad : ¬ (0 ≤ n ∧ n ≤ 1048576) → vecB kv = false := fun hn => by
      rw [Bool.eq_false_iff]; intro h
      have := List.all_eq_true.1 h n (List.mem_of_getElem? hg)
      simp at this; omega
    by_cases h0 : n < 0
    · have hno := hbad (by omega)
      simp [h13', hI, hix, hg, h0]
      exact fun _ => hr _ _ hno (by simp)
    · by_cases h2 : 1048576 < n
      · have hno := hbad (by omega)
        simp [h13', hI, hix, hg, h0, h2]
        exact fun _ => hr _ _ hno (by simp)
      · have hall' : vecB (kv.take (i + 1)) = true := by
          rw [htake, vecB, List.all_append, ← vecB, hall]; simp; omega
        simp [h13', hI, hix, hg, h0, h2]
        exact fun _ => ⟨hall', hh⟩
  · intro a l g H' ⟨hH, hall⟩ hh hf
    subst hH
    simp only [Holds_cons, Holds_nil, and_true] at hh
    rw [List.take_of_length_le (by omega)] at hall
    exact he l g hall hh

theorem right_eventsL (kv : List Int) (hk : kv.length = 16) (E : List Evt) (hE : E.length ≤ 100000) (hok : ∀ e ∈ E, EvFit e) (vi ve : GV) (hve : Elems 27 ve (E.map evG)) (l0 : List GV) (g0 : Nat) (H0 : GH) (K : GExit × St → Prop)
    (h123 : lget l0 123 = ve) (h124 : lget l0 124 = .int .i64 E.length) (h125 : lget l0 125 = .int .i64 0) (g1 : Nat) (h1 : lget l0 1 = .lbox g1 (snC kv vi ve))
    (he : ∀ l g, E.all (evAt kv) = true → K (.exit 6, ⟨⟨l, g⟩, H0⟩))
    (hr : ∀ l g, E.all (evAt kv) = false → lget l 2 = .bool false → K (.ret, ⟨⟨l, g⟩, H0⟩)) :
    optW (erun T (.loop L3_hedgerowlaw12_right) ⟨⟨l0, g0⟩, H0⟩) K := by
  have sl := sn_len hk vi ve
  refine range_loop (T := T) (n := E.length) (A := Unit) (fun _ _ => [(1, .lbox g1 (snC kv vi ve))]) (fun i _ _ H' => H' = H0 ∧ (E.take i).all (evAt kv) = true) (c := 126) (b := 6) (I := 125) (N := 124) (d := 144) rfl (by omega) (by decide) ⟨rfl, rfl⟩ (by simp) ?_ ?_ 0 () _ _ H0 (by omega) ⟨rfl, by simp⟩ (by simp [h1]) (.refl _ _ _) h125 h124
  · intro i a l g H' hi ⟨hH, hall⟩ hh hf hIx
    subst hH
    have h123' := hf.get 123 rfl h123 (by simp [hve.boxy])
    obtain ⟨lt, ix, opt, get, ⟨t, sv⟩, wr_, mem⟩ := at_ok (e := evG) hve hi (by omega)
    generalize E[i]'hi = e at opt get mem
    have hfe := hok e mem
    have hev := fun H => ref_EvRight e hfe H
    simp only [Holds_cons, Holds_nil, and_true] at hh
    have l1 := ev_len hfe.past
    have l4 : List.take 27 (evC e) = evC e := List.take_of_length_le (by rw [l1]; exact Nat.le_refl _)
    have lo := ev_one hfe.past
    have f0 := get_of (ev_0 e)
    have f1 := get_of (ev_1 e)
    have sp : setPart [GV.int .i64 0, .int .i64 0, .int .i64 0, .int .i64 0, .int .i64 0, .int .i64 0, .int .i64 0, .int .i64 0, .int .i64 0, .int .i64 0, .int .i64 0, .int .i64 0, .int .i64 0, .int .i64 0, .int .i64 0, .int .i64 0, .int .i64 0, .int .i64 0, .int .i64 0, .int .i64 0, .str ⟨#[]⟩, .str ⟨#[]⟩, .str ⟨#[]⟩, .str ⟨#[]⟩, .int .i64 0, .int .i64 0, .str ⟨#[]⟩] 0 (evC e) = some (evC e) := by
      simp only [setPart, l1]; simp
    have htake : E.take (i + 1) = E.take i ++ [e] := by rw [List.take_add_one, opt]; rfl
    have hbad : evAt kv e = false → E.all (evAt kv) = false := fun h => by
      rw [Bool.eq_false_iff]; intro h'
      rw [List.all_eq_true.1 h' e mem] at h; cases h
    rw [sv] at h123'
    cases hb : evB e with
    | false =>
      rw [hb] at hev
      have hno := hbad (by simp [evAt, hb])
      simp [h123', hIx, hh, ix, opt, get, sp, l1, l4, lo, hev]
      exact fun _ => hr _ _ hno (by simp)
    | true =>
      rw [hb] at hev
      have hdot : dotB e.r e.c = true := by simp only [evB, nextB, Bool.and_eq_true] at hb; exact hb.1.1.1
      have hd2 := hdot
      simp only [dotB, decide_eq_true_eq] at hd2
      have hi16 := gIx16 (r := e.r) (by omega) (by omega)
      have hat := sn_at hk vi ve (r := e.r) (by omega) (by omega)
      have hat' := get_of hat
      by_cases a4 : at16 kv e.r < e.c
      · have hno := hbad (by simp [evAt, knowsB, hb]; omega)
        simp [h123', hIx, hh, ix, opt, get, sp, l1, f0, f1, l4, lo, hev, sl, hi16, hat, hat', a4]
        exact fun _ => hr _ _ hno (by simp)
      · have hyes : evAt kv e = true := by simp [evAt, knowsB, hb, hdot]; omega
        have hall' : (E.take (i + 1)).all (evAt kv) = true := by rw [htake, List.all_append, hall]; simp [hyes]
        simp [h123', hIx, hh, ix, opt, get, sp, l1, f0, f1, l4, lo, hev, sl, hi16, hat, hat', a4]
        exact fun _ => by simpa using hall'
  · intro a l g H' ⟨hH, hall⟩ hh hf
    subst hH
    rw [List.take_length] at hall
    exact he l g hall

theorem law_right (kv : List Int) (hk : kv.length = 16) (I : List IP) (hI : I.length ≤ 100000) (hok : ∀ p ∈ I, IOk p) (E : List Evt) (hE : E.length ≤ 100000) (hoke : ∀ e ∈ E, EvFit e) (vi ve : GV) (hvi : Elems 6 vi (I.map ipG)) (hve : Elems 27 ve (E.map evG)) (H : GH) :
    ecall T f_hedgerowlaw12_right [.agg (snC kv vi ve)] H = some (.bool (rightB kv (I.map (·.1)) E), H) := by
  have s16 := sn_16 hk vi ve
  have s16' := sn_16' hk vi ve
  have s17 := sn_17 hk vi ve
  have s17' := sn_17' hk vi ve
  have st := sn_take hk vi ve
  have sl := sn_len hk vi ve
  have li := hvi.len
  have ui := elemsUnbox hvi
  have le := hve.len
  have ue := elemsUnbox hve
  have oi := hvi.ok
  have oe := hve.ok
  apply optW.eq
  rw [ecall_0 T_hedgerowlaw12_right rfl (by simp [F_hedgerowlaw12_right]), wp_fin1]
  simp only [F_hedgerowlaw12_right, b_hedgerowlaw12_right]
  simp [sl]
  rw [wp_seqK, wp_blockK]
  refine right_nums kv hk _ _ H _ _ 0 (snC kv vi ve) rfl (by simp [st]) (by simp) (by simp) ?_ ?_
  · intro l g hvec k1
    simp [k1, sl, s16, s16', li, ui, oi]
    rw [wp_seqK, wp_blockK]
    refine right_itemsL kv hk I hI hok vi ve hvi _ _ H _ (by simp [ui]) (by simp) (by simp) _ (by simp [k1]; rfl) ?_ ?_
    · intro l2 g2 h2 k2
      have h2' : (List.range I.length).all (itAt kv (I.map (·.1))) = true := by
        have : rItm kv (I.map (·.1)) = itAt kv (I.map (·.1)) := funext fun k => rItm_eq hvec _ k
        rw [← this]; exact h2
      simp [k2, sl, s17, s17', le, ue, oe]
      rw [wp_seqK, wp_blockK]
      refine right_eventsL kv hk E hE hoke vi ve hve _ _ H _ (by simp [ue]) (by simp) (by simp) _ (by simp [k2]; rfl) ?_ ?_
      · intro l3 g3 h3
        have hR : rightB kv (I.map (·.1)) E = true := by simp only [rightB, hvec, h3, List.length_map, h2']; rfl
        simp [hR]
      · intro l3 g3 h3 k3
        have hR : rightB kv (I.map (·.1)) E = false := by simp only [rightB, h3, Bool.and_false]
        simp [hR, k3]
    · intro l2 g2 h2 k2
      have h2' : (List.range I.length).all (itAt kv (I.map (·.1))) = false := by
        have : rItm kv (I.map (·.1)) = itAt kv (I.map (·.1)) := funext fun k => rItm_eq hvec _ k
        rw [← this]; exact h2
      have hR : rightB kv (I.map (·.1)) E = false := by simp only [rightB, List.length_map, h2', Bool.false_and, Bool.and_false]
      simp [hR, k2]
  · intro l g h2 k2
    have hR : rightB kv (I.map (·.1)) E = false := by simp only [rightB, h2, Bool.false_and]
    simp [hR, k2]
end Go.Proofs.YthbhfipgdinihaaGreatDoor
