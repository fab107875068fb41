/- Own work: the shadow machine and what it shows, part Ri. -/
import Derived.Test.YthbhfipgdinihaaDoorFe
set_option linter.all false

namespace Go.Proofs.YthbhfipgdinihaaDoor
open Go.Sh
set_option maxRecDepth 100000

def rEnt (kv : List Int) (x : El) (L : List Ent) (j : Nat) : Bool :=
  let e := L.getD j default
  let q := L.getD (j - 1) default
  mayB (if 4 ≤ x.k then 3 else 1) x e.k e.n e.t && (decide (0 ≤ e.r ∧ e.r ≤ 15 ∧ 1 ≤ e.c ∧ e.c ≤ at16 kv e.r) && (decide (j = 0) || firstD q.r q.c e.r e.c))
def rItm (kv : List Int) (I : List Itm) (k : Nat) : Bool :=
  let p := I.getD k default
  decide (0 < p.L.length) && ((decide (k = 0) || lessE (I.getD (k - 1) default).x p.x) && (List.range p.L.length).all (rEnt kv p.x p.L))

theorem mayB_elemV {op : Int} {x : El} {k n : Int} {t : List UInt8} (h : mayB op x k n t = true) : elemV x.k x.a x.b x.c x.d = true := by
  simp only [mayB, Bool.and_eq_true] at h; exact h.1

theorem op_same {x : El} (h : elemV x.k x.a x.b x.c x.d = true) : (if x.k = 4 ∨ x.k = 5 then (3 : Int) else 1) = if 4 ≤ x.k then 3 else 1 := by
  have := (kept_iff h).1
  by_cases h4 : 4 ≤ x.k
  · rw [if_pos h4, if_pos (by simpa [h4] using this)]
  · rw [if_neg h4, if_neg (by simpa [h4] using this)]

theorem at16_le {kv : List Int} (hb : vecB kv = true) (r : Int) : at16 kv r ≤ 1048576 := by
  unfold at16
  rcases Nat.lt_or_ge r.toNat kv.length with h | h
  · have := List.all_eq_true.1 hb _ (List.getElem_mem h)
    simp only [decide_eq_true_eq] at this
    rw [List.getD_eq_getElem?_getD, List.getElem?_eq_getElem h]
    simp; omega
  · rw [List.getD_eq_getElem?_getD, List.getElem?_eq_none h]; simp

theorem rItm_eq {kv : List Int} (hb : vecB kv = true) (I : List Itm) (k : Nat) : rItm kv I k = itAt kv I k := by
  unfold rItm itAt itemB
  generalize hp : I.getD k default = p
  generalize I.getD (k - 1) default = q
  simp only
  rw [Bool.eq_iff_iff]
  simp only [Bool.and_eq_true, okPutB, lessE, List.all_eq_true, List.mem_range, decide_eq_true_eq]
  constructor
  · rintro ⟨h1, h2, h3⟩
    have e0 := h3 0 h1
    simp only [rEnt, Bool.and_eq_true] at e0
    have hel := mayB_elemV e0.1
    refine ⟨⟨h1, ⟨hel, fun j hj => ?_⟩, fun e he => ?_⟩, h2⟩
    · have ej := h3 j hj
      simp only [rEnt, Bool.and_eq_true, decide_eq_true_eq] at ej
      obtain ⟨m1, ⟨r1, r2, r3, r4⟩, m3⟩ := ej
      have := at16_le hb (p.L.getD j default).r
      simp only [okAt, entryB, Bool.and_eq_true, op_same hel]
      refine ⟨⟨by simp only [dotB, decide_eq_true_eq]; omega, m1⟩, ?_⟩
      rcases (Bool.or_eq_true _ _).mp m3 with m | m
      · rw [m]; rfl
      · have := (ordD_first (p.L.getD (j - 1) default) (p.L.getD j default)).2 m
        rw [decide_eq_true this]; simp
    · obtain ⟨j, hj, rfl⟩ := List.mem_iff_getElem.1 he
      have ej := h3 j hj
      have hg : p.L.getD j default = p.L[j] := by rw [List.getD_eq_getElem?_getD, List.getElem?_eq_getElem hj]; rfl
      simp only [rEnt, hg, Bool.and_eq_true, decide_eq_true_eq] at ej
      obtain ⟨m1, ⟨r1, r2, r3, r4⟩, m3⟩ := ej
      have := at16_le hb p.L[j].r
      simp only [knowsB, dotB, Bool.and_eq_true, decide_eq_true_eq]
      omega
  · rintro ⟨⟨h1, ⟨hel, h3⟩, h4⟩, h2⟩
    refine ⟨h1, h2, fun j hj => ?_⟩
    have ej := h3 j hj
    simp only [okAt, entryB, Bool.and_eq_true, op_same hel] at ej
    obtain ⟨⟨m1, m2⟩, m3⟩ := ej
    have hg : p.L.getD j default = p.L[j] := by rw [List.getD_eq_getElem?_getD, List.getElem?_eq_getElem hj]; rfl
    have hk := h4 p.L[j] (List.getElem_mem hj)
    rw [← hg] at hk
    simp only [knowsB, dotB, Bool.and_eq_true, decide_eq_true_eq] at hk
    simp only [rEnt, Bool.and_eq_true, decide_eq_true_eq]
    refine ⟨m2, by omega, ?_⟩
    rcases (Bool.or_eq_true _ _).mp m3 with m | m
    · rw [m]; rfl
    · have := (ordD_first (p.L.getD (j - 1) default) (p.L.getD j default)).1 (by simpa using m)
      rw [this]; simp

section
variable {kv : List Int} (hk : kv.length = 16) (vi ve : GV)
include hk
theorem sn_at {r : Int} (h0 : 0 ≤ r) (h1 : r < 16) : (snC kv vi ve)[r.toNat]? = some (.int .i64 (at16 kv r)) := by
  have h2 := vec_at hk h0 h1
  unfold snC
  rw [List.getElem?_append_left (by simp [hk]; omega)]
  exact h2
end

end Go.Proofs.YthbhfipgdinihaaDoor
