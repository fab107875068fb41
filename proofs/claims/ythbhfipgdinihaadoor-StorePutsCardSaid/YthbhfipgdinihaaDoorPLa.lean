/- Own work: the shadow machine and what it shows, part PLa. -/
import Derived.Test.YthbhfipgdinihaaDoorPPt
set_option linter.all false

namespace Go.Proofs.YthbhfipgdinihaaDoor
open Go.Sh
set_option maxRecDepth 100000

theorem fixed_run (H : GH) : gcall T 3000 f_hedgerowlaw07_fixed [] H = some (.bool true, H) := by kernel_rfl
theorem fixed_ok (H : GH) : ecall T f_hedgerowlaw07_fixed [] H = some (.bool true, H) := ecall_iff.2 ⟨3000, fixed_run H⟩

/-! ## What comes in -/

structure Itm where
  x : El
  L : List Ent

abbrev IP := Itm × GV
abbrev ipG (p : IP) : GV := .agg (itemC p.1.x p.2)

structure ElBig (x : El) : Prop where
  a : x.a.length ≤ 1125899906842624
  b : x.b.length ≤ 1125899906842624
  c : x.c.length ≤ 1125899906842624
  d : x.d.length ≤ 1125899906842624

/-! ## What the law asks of an item's entries -/

def okE (x : El) (L : List Ent) (i : Nat) : Bool :=
  decide ((L.getD i default).t.length ≤ 300) && (dotB (L.getD i default).r (L.getD i default).c && (mayB (if 4 ≤ x.k then 3 else 1) x (L.getD i default).k (L.getD i default).n (L.getD i default).t && (decide (i = 0) || firstD (L.getD (i - 1) default).r (L.getD (i - 1) default).c (L.getD i default).r (L.getD i default).c)))
def okL (x : El) (L : List Ent) (i : Nat) : Bool := elemV x.k x.a x.b x.c x.d && (List.range i).all (okE x L)

theorem okL_succ (x : El) (L : List Ent) (i : Nat) : okL x L (i + 1) = (okL x L i && okE x L i) := by
  unfold okL; rw [range_all_succ, Bool.and_assoc]

theorem plain_len {t : List UInt8} (h : plainL t = true) : t.length ≤ 64 := by
  simp only [plainL, Bool.and_eq_true, decide_eq_true_eq] at h; exact h.2

theorem may_len {op : Int} {x : El} {k n : Int} {t : List UInt8} (h : mayB op x k n t = true) : t.length ≤ 300 := by
  simp only [mayB, Bool.and_eq_true] at h
  replace h := h.2
  have hn : vnone k n t = true → t.length ≤ 300 := fun h => by
    simp only [vnone, decide_eq_true_eq] at h
    rw [h.2.2]; simp
  split at h
  · simp only [Bool.and_eq_true] at h; exact hn h.1
  · split at h
    · simp only [Bool.and_eq_true, decide_eq_true_eq] at h
      obtain ⟨_, ⟨k1, k2⟩, hr⟩ := h
      unfold rightV at hr
      split at hr
      · simp only [decide_eq_true_eq] at hr; rw [hr.2]; simp
      · split at hr
        · simp only [decide_eq_true_eq] at hr; rw [hr.2]; simp
        · split at hr
          · simp only [decide_eq_true_eq] at hr; rw [hr.2.2]; simp
          · split at hr
            · simp only [Bool.and_eq_true] at hr; have := plain_len hr.2; omega
            · omega
    · split at h
      · simp only [Bool.and_eq_true] at h; exact hn h.1
      · cases h

theorem op_same {x : El} (h : elemV x.k x.a x.b x.c x.d = true) : (if x.k = 4 ∨ x.k = 5 then (3 : Int) else 1) = if 4 ≤ x.k then 3 else 1 := by
  have := (kept_iff h).1
  by_cases h4 : 4 ≤ x.k
  · rw [if_pos h4, if_pos (by simpa [h4] using this)]
  · rw [if_neg h4, if_neg (by simpa [h4] using this)]

theorem okE_at {x : El} (h : elemV x.k x.a x.b x.c x.d = true) (L : List Ent) (i : Nat) : okE x L i = okAt x L i := by
  unfold okE okAt entryB
  rw [op_same h]
  have hf : decide (ordD (L.getD (i - 1) default) (L.getD i default) < 0) = firstD (L.getD (i - 1) default).r (L.getD (i - 1) default).c (L.getD i default).r (L.getD i default).c := by
    rw [Bool.eq_iff_iff, decide_eq_true_eq]; exact ordD_first _ _
  rw [hf]
  cases hm : mayB (if 4 ≤ x.k then 3 else 1) x (L.getD i default).k (L.getD i default).n (L.getD i default).t with
  | false => simp
  | true =>
    have := may_len hm
    simp only [this, decide_true, Bool.true_and, Bool.and_assoc]

theorem okL_put (x : El) (L : List Ent) : okL x L L.length = okPutB x L := by
  unfold okL okPutB
  cases h : elemV x.k x.a x.b x.c x.d with
  | false => rfl
  | true =>
    congr 1
    rw [Bool.eq_iff_iff, List.all_eq_true, List.all_eq_true]
    exact ⟨fun a i hi => by rw [← okE_at h]; exact a i hi, fun a i hi => by rw [okE_at h]; exact a i hi⟩

set_option maxHeartbeats 4000000 in
theorem ok_loop (x : El) (hx : ElFit x) (L : List Ent) (hL : L.length ≤ 20) (w : GV) (hv : Elems 5 w (L.map entG)) (gb g4 g5 : Nat) (c4 c5 : List GV) (l0 : List GV) (g0 : Nat) (H0 : GH) (K : GExit × St → Prop)
    (h10 : lget l0 10 = .lbox gb (elC x ++ [w])) (h11 : lget l0 11 = .bool (elemV x.k x.a x.b x.c x.d)) (hb4 : lget l0 4 = .lbox g4 c4) (hb5 : lget l0 5 = .lbox g5 c5) (h62 : lget l0 62 = w) (h63 : lget l0 63 = .int .i64 L.length) (h64 : lget l0 64 = .int .i64 0)
    (he : ∀ l g, lget l 10 = .lbox gb (elC x ++ [w]) → lget l 11 = .bool (okL x L L.length) → lget l 4 = .lbox g4 c4 → lget l 5 = .lbox g5 c5 → Fr L0_hedgerowlaw07_StorePuts l0 l → K (.exit 2, ⟨⟨l, g⟩, H0⟩)) :
    optW (erun T (.loop L0_hedgerowlaw07_StorePuts) ⟨⟨l0, g0⟩, H0⟩) K := by
  refine range_loop (T := T) (n := L.length) (A := Unit) (fun i _ => [(10, .lbox gb (elC x ++ [w])), (11, .bool (okL x L i)), (4, .lbox g4 c4), (5, .lbox g5 c5)]) (fun i _ _ H' => H' = H0) (c := 65) (b := 2) (I := 64) (N := 63) (d := 131) rfl (by omega) (by decide) ⟨rfl, rfl⟩ (by simp) ?_ ?_ 0 () _ _ H0 (by omega) rfl (by simp [h10, h11, hb4, hb5, okL]) (.refl _ _ _) h64 h63
  · intro i a l g H' hi hH hh hf hI
    subst hH
    have h62' := hf.get 62 rfl h62 (by simp [hv.boxy])
    obtain ⟨lt, ix, opt, get, ⟨t, sl⟩, wr_, mem⟩ := at_ok (e := entG) hv hi (by omega)
    generalize L[i]'hi = e at opt get mem
    have hgd : L.getD i default = e := by simp [List.getD, opt]
    simp only [Holds_cons, Holds_nil, and_true] at hh
    obtain ⟨hh1, hh2, hh3, hh4⟩ := hh
    have hs := okL_succ x L i
    have hE : okE x L i = (decide (e.t.length ≤ 300) && (dotB e.r e.c && (mayB (if 4 ≤ x.k then 3 else 1) x e.k e.n e.t && (decide (i = 0) || firstD (L.getD (i - 1) default).r (L.getD (i - 1) default).c e.r e.c)))) := by
      unfold okE; rw [hgd]
    simp only [elC, List.cons_append, List.nil_append] at hh1
    have hone := hv.one
    have hok' := hv.ok
    have hue := elemsUnbox hv
    rw [hE] at hs
    rw [sl] at h62'
    -- the op
    obtain ⟨op, hop, hopd⟩ : ∃ op : Int, op = (if 4 ≤ x.k then 3 else 1) ∧ ((4 ≤ x.k ∧ op = 3) ∨ (¬ 4 ≤ x.k ∧ op = 1)) := by
      by_cases h4 : 4 ≤ x.k
      · exact ⟨3, by rw [if_pos h4], .inl ⟨h4, rfl⟩⟩
      · exact ⟨1, by rw [if_neg h4], .inr ⟨h4, rfl⟩⟩
    rw [← hop] at hs
    have hch := fun (q : e.t.length ≤ 1048576) H => ref_Change op x e.k e.n e.t hx q H
    simp only [chC, elC, List.cons_append, List.nil_append] at hch
    clear hop
    cases ho : okL x L i with
    | false =>
      rw [ho, Bool.false_and] at hs
      rw [ho] at hh2
      rcases hopd with ⟨h4, rfl⟩ | ⟨h4, rfl⟩
      all_goals
        by_cases d1 : 0 ≤ e.r
        · by_cases d2 : e.r < 16
          · by_cases d3 : 1 ≤ e.c
            · by_cases d4 : e.c ≤ 1048576
              all_goals simp [h62', hI, hh1, hh2, hh3, hh4, ix, opt, get, entC, elC, setPart, h4, d1, d2, d3, d4, hs]
            · simp [h62', hI, hh1, hh2, hh3, hh4, ix, opt, get, entC, elC, setPart, h4, d1, d2, d3, hs]
          · simp [h62', hI, hh1, hh2, hh3, hh4, ix, opt, get, entC, elC, setPart, h4, d1, d2, hs]
        · simp [h62', hI, hh1, hh2, hh3, hh4, ix, opt, get, entC, elC, setPart, h4, d1, hs]
    | true =>
      rw [ho, Bool.true_and] at hs
      rw [ho] at hh2
      by_cases ht : e.t.length ≤ 300
      · have ht' : (e.t.length : Int) ≤ 300 := by omega
        have hch' := fun H => hch (by omega) H
        clear hch
        simp only [ht, decide_true, Bool.true_and] at hs
        cases hd : dotB e.r e.c with
        | false =>
          rw [hd, Bool.false_and] at hs
          simp only [dotB, decide_eq_false_iff_not] at hd
          rcases hopd with ⟨h4, rfl⟩ | ⟨h4, rfl⟩
          all_goals
            by_cases d1 : 0 ≤ e.r
            · by_cases d2 : e.r < 16
              · by_cases d3 : 1 ≤ e.c
                · have d4 : ¬ e.c ≤ 1048576 := fun d4 => hd ⟨d1, d2, d3, d4⟩
                  simp [h62', hI, hh1, hh2, hh3, hh4, ix, opt, get, entC, elC, setPart, h4, d1, d2, d3, d4, ht', ht, hs]
                · simp [h62', hI, hh1, hh2, hh3, hh4, ix, opt, get, entC, elC, setPart, h4, d1, d2, d3, ht', ht, hs]
              · simp [h62', hI, hh1, hh2, hh3, hh4, ix, opt, get, entC, elC, setPart, h4, d1, d2, ht', ht, hs]
            · simp [h62', hI, hh1, hh2, hh3, hh4, ix, opt, get, entC, elC, setPart, h4, d1, ht', ht, hs]
        | true =>
          rw [hd, Bool.true_and] at hs
          simp only [dotB, decide_eq_true_eq] at hd
          obtain ⟨d1, d2, d3, d4⟩ := hd
          cases hm : mayB op x e.k e.n e.t with
          | false =>
            rw [hm, Bool.false_and] at hs
            rw [hm] at hch'
            rcases hopd with ⟨h4, rfl⟩ | ⟨h4, rfl⟩
            all_goals simp [h62', hI, hh1, hh2, hh3, hh4, ix, opt, get, entC, elC, setPart, gFill, h4, d1, d2, d3, d4, ht', ht, hch', hs]
          | true =>
            rw [hm, Bool.true_and] at hs
            rw [hm] at hch'
            rcases Nat.eq_zero_or_pos i with rfl | hpos
            · simp only [decide_true, Bool.true_or] at hs
              simp at hI ix
              rcases hopd with ⟨h4, rfl⟩ | ⟨h4, rfl⟩
              all_goals simp [h62', hI, hh1, hh2, hh3, hh4, ix, opt, get, entC, elC, setPart, gFill, h4, d1, d2, d3, d4, ht', ht, hch', hs]
            · have hi1 : i - 1 < L.length := by omega
              obtain ⟨lt1, ix1, opt1, get1, _, _, _⟩ := at_ok (e := entG) hv hi1 (by omega)
              generalize L[i - 1]'hi1 = p at opt1 get1
              have hgd1 : L.getD (i - 1) default = p := by simp [List.getD, opt1]
              have hw : IntKind.i64.wrap ((i : Int) - 1) = ((i - 1 : Nat) : Int) := by rw [wrap_i64' (by omega) (by omega)]; omega
              have hfi := fun H => ref_First p.r p.c e.r e.c H
              have hi0 : ¬ ((i : Int) = 0) := by omega
              have hi0' : ¬ (i = 0) := by omega
              rw [hgd1] at hs
              simp only [hi0', decide_false, Bool.false_or] at hs
              subst sl
              cases hf1 : firstD p.r p.c e.r e.c <;> rw [hf1] at hs hfi
              all_goals
                rcases hopd with ⟨h4, rfl⟩ | ⟨h4, rfl⟩
                all_goals simp [h62', hI, hh1, hh2, hh3, hh4, ix, opt, get, entC, elC, setPart, gFill, h4, d1, d2, d3, d4, ht', ht, hch', hi0, hi0', hw, ix1, opt1, get1, hfi, hs]
      · have ht' : ¬ (e.t.length : Int) ≤ 300 := by omega
        simp only [ht, decide_false, Bool.false_and] at hs
        rcases hopd with ⟨h4, rfl⟩ | ⟨h4, rfl⟩
        all_goals
          by_cases d1 : 0 ≤ e.r
          · by_cases d2 : e.r < 16
            · by_cases d3 : 1 ≤ e.c
              · by_cases d4 : e.c ≤ 1048576
                all_goals simp [h62', hI, hh1, hh2, hh3, hh4, ix, opt, get, entC, elC, setPart, h4, d1, d2, d3, d4, ht', ht, hs]
              · simp [h62', hI, hh1, hh2, hh3, hh4, ix, opt, get, entC, elC, setPart, h4, d1, d2, d3, ht', ht, hs]
            · simp [h62', hI, hh1, hh2, hh3, hh4, ix, opt, get, entC, elC, setPart, h4, d1, d2, ht', ht, hs]
          · simp [h62', hI, hh1, hh2, hh3, hh4, ix, opt, get, entC, elC, setPart, h4, d1, ht', ht, hs]
  · intro a l g H' hH hh hf
    subst hH
    simp only [Holds_cons, Holds_nil, and_true] at hh
    exact he l g hh.1 hh.2.1 hh.2.2.1 hh.2.2.2 hf
end Go.Proofs.YthbhfipgdinihaaDoor

namespace Go.Proofs.YthbhfipgdinihaaDoor
open Go.Sh
set_option maxRecDepth 100000

theorem ba_self (a : ByteArray) : (a == a) = true := by
  rcases a with ⟨a⟩
  show (a == a) = true
  exact beq_self_eq_true _
theorem ent_refl (e : Ent) : leavesEq [.int .i64, .int .i64, .int .i64, .int .i64, .str] (entC e) (entC e) = some true := by
  simp [leavesEq, leafEq, entC, ba_self]

theorem same_loop (x : El) (hx : ElFit x) (hr : ElRange x) (L : List Ent) (hL : L.length ≤ 20) (v1 : GV) (hv : Elems 5 v1 (L.map entG)) (w : GV) (hw1 : w.one = true) (gb m2 g4 g5 : Nat) (c4 c5 : List GV) (es2 : List (GV × GV)) (l0 : List GV) (g0 : Nat) (H0 : GH) (K : GExit × St → Prop)
    (hm : H0.objs[m2]? = some (.map true kLs es2)) (hh2 : Has es2 x L)
    (h4 : lget l0 4 = .lbox g4 c4) (h5 : lget l0 5 = .lbox g5 c5) (h8 : lget l0 8 = .map m2) (h10 : lget l0 10 = .lbox gb (elC x ++ [w])) (h16 : lget l0 16 = v1) (h157 : lget l0 157 = .int .i64 L.length) (h158 : lget l0 158 = .int .i64 0)
    (he : ∀ l g, lget l 4 = .lbox g4 c4 → lget l 5 = .lbox g5 c5 → Fr L1_hedgerowlaw07_StorePuts l0 l → K (.exit 4, ⟨⟨l, g⟩, H0⟩)) :
    optW (erun T (.loop L1_hedgerowlaw07_StorePuts) ⟨⟨l0, g0⟩, H0⟩) K := by
  refine range_loop (T := T) (n := L.length) (A := Unit) (fun i _ => [(10, .lbox gb (elC x ++ [w])), (4, .lbox g4 c4), (5, .lbox g5 c5)]) (fun i _ _ H' => H' = H0) (c := 159) (b := 4) (I := 158) (N := 157) (d := 173) rfl (by omega) (by decide) ⟨rfl, rfl⟩ (by simp) ?_ ?_ 0 () _ _ H0 (by omega) rfl (by simp [h10, h4, h5]) (.refl _ _ _) h158 h157
  · intro i a l g H' hi hH hh hf hI
    subst hH
    have h16' := hf.get 16 rfl h16 (by simp [hv.boxy])
    have h8' := hf.get 8 rfl h8 (by simp [GV.boxy])
    obtain ⟨lt, ix, opt, get, ⟨t, sl⟩, wr_, mem⟩ := at_ok (e := entG) hv hi (by omega)
    generalize L[i]'hi = e at opt get mem
    obtain ⟨t2, sl2⟩ := hh2.get.is_sl (i := i) (x := entG e) (by simp [opt])
    have hk := el_key hx hr
    simp only [Holds_cons, Holds_nil, and_true] at hh
    obtain ⟨hh, hh4, hh5⟩ := hh
    simp only [elG, elC, List.cons_append, List.nil_append] at hh hk sl2
    have er := ent_refl e
    simp only [entC] at er
    rw [sl] at h16'
    simp [h16', h8', hI, hh, hh4, hh5, ix, opt, get, entC, elC, setPart, hm, hk, sl2, er, hw1]
  · intro a l g H' hH hh hf
    subst hH
    simp only [Holds_cons, Holds_nil, and_true] at hh
    exact he l g hh.2.1 hh.2.2 hf

structure State (H : GH) (s m m2 : Nat) (es es2 : List (GV × GV)) : Prop where
  at_ : SAt H s m es
  o2 : H.objs[m2]? = some (.map true kLs es2)
  b2 : H.bo ≤ m2
  bl : H.bo ≤ H.objs.length
  ne1 : m ≠ m2
  ne2 : s ≠ m2
  ne3 : s ≠ m
  k1 : Keys es
  k2 : Keys es2
  both : Both es es2

theorem kill_get {H : GH} (L : List Ent) {i : Nat} {o : GObj} (h : H.objs[i]? = some o) : (killH L H).objs[i]? = some o := by
  unfold killH
  split
  · exact h
  · rw [List.getElem?_append_left (List.getElem?_eq_some_iff.1 h).1]; exact h
theorem kill_bo (L : List Ent) (H : GH) : (killH L H).bo = H.bo := by unfold killH; split <;> rfl
theorem kill_len (L : List Ent) (H : GH) : H.objs.length ≤ (killH L H).objs.length := by unfold killH; split <;> simp

theorem State.kill {H : GH} {s m m2 : Nat} {es es2 : List (GV × GV)} (h : State H s m m2 es es2) (L : List Ent) : State (killH L H) s m m2 es es2 :=
  ⟨⟨kill_get L h.at_.os, kill_get L h.at_.om, by rw [kill_bo]; exact h.at_.bo⟩, kill_get L h.o2, by rw [kill_bo]; exact h.b2, by rw [kill_bo]; exact Nat.le_trans h.bl (kill_len L H), h.ne1, h.ne2, h.ne3, h.k1, h.k2, h.both⟩

/-- The store's map, then the law's own one, with what was laid down. -/
def laid2 (H : GH) (m m2 : Nat) (e1 e2 : List (GV × GV)) : GH := { H with objs := (H.objs.set m (.map true kLs e1)).set m2 (.map true kLs e2) }

theorem State.laid {H : GH} {s m m2 : Nat} {es es2 : List (GV × GV)} (h : State H s m m2 es es2) {x : El} (hx : ElFit x) (hr : ElRange x) (L : List Ent) (hL : L.length ≤ 20) {v w : GV} (hv : Elems 5 v (L.map entG)) (hw : Elems 5 w (L.map entG)) :
    State (laid2 H m m2 (layM es x L v) (mapPut es2 (elG x) w)) s m m2 (layM es x L v) (mapPut es2 (elG x) w) := by
  have l1 := (List.getElem?_eq_some_iff.1 h.at_.om).1
  have l2 := (List.getElem?_eq_some_iff.1 h.o2).1
  refine ⟨⟨?_, ?_, h.at_.bo⟩, ?_, h.b2, ?_, h.ne1, h.ne2, h.ne3, lay_keys h.k1 hx hr L v, put_keys h.k2 (el_key hx hr) w, both_lay h.both h.k1 h.k2 hx hr L hL hv hw⟩
  · simp only [laid2]
    rw [List.getElem?_set_ne (Ne.symm h.ne2), List.getElem?_set_ne (Ne.symm h.ne3)]; exact h.at_.os
  · simp only [laid2]
    rw [List.getElem?_set_ne (Ne.symm h.ne1), List.getElem?_set_self l1]
  · simp only [laid2]
    rw [List.getElem?_set_self (by rw [List.length_set]; exact l2)]
  · simp only [laid2, List.length_set]; exact h.bl

theorem mset_any {H : GH} {m2 : Nat} {es2 : List (GV × GV)} (h : H.objs[m2]? = some (.map true kLs es2)) (hb : H.bo ≤ m2) {k w : GV} (hk : keyOk true kLs k = true) {xs : List GV} (hw : Elems 5 w xs) :
    gMSet H true kLs (.map m2) k w = some { H with objs := H.objs.set m2 (.map true kLs (mapPut es2 k w)) } := by
  cases hw <;> simp [gMSet, gMSet0, h, hb, hk, GV.ok]
end Go.Proofs.YthbhfipgdinihaaDoor

namespace Go.Proofs.YthbhfipgdinihaaDoor
open Go.Sh
set_option maxRecDepth 100000

structure IIn (p : IP) : Prop where
  x : ElBig p.1.x
  r : ElRange p.1.x
  L : p.1.L.length ≤ 9223372036854775807
  el : Elems 5 p.2 (p.1.L.map entG)
  n : ∀ e ∈ p.1.L, EntFit e

set_option maxHeartbeats 4000000 in
theorem items_loop (I : List IP) (hI : I.length ≤ 20) (hin : ∀ p ∈ I, IIn p) (v : GV) (hv : Elems 6 v (I.map ipG)) (s m m2 : Nat) (g4 g5 : Nat) (c4 c5 : List GV) (l0 : List GV) (g0 : Nat) (H0 : GH) (K : GExit × St → Prop)
    (h4 : lget l0 4 = .lbox g4 c4) (h5 : lget l0 5 = .lbox g5 c5) (h7 : lget l0 7 = .ptr s 0) (h8 : lget l0 8 = .map m2) (h26 : lget l0 26 = v) (h27 : lget l0 27 = .int .i64 I.length) (h28 : lget l0 28 = .int .i64 0)
    (st : State H0 s m m2 [] [])
    (he : ∀ l g H, lget l 4 = .lbox g4 c4 → lget l 5 = .lbox g5 c5 → K (.exit 0, ⟨⟨l, g⟩, H⟩))
    (hret : ∀ l g H, lget l 6 = .bool true → K (.ret, ⟨⟨l, g⟩, H⟩)) :
    optW (erun T (.loop L2_hedgerowlaw07_StorePuts) ⟨⟨l0, g0⟩, H0⟩) K := by
  refine range_loop (T := T) (n := I.length) (A := Unit) (fun i _ => [(4, .lbox g4 c4), (5, .lbox g5 c5)]) (fun i _ _ H' => ∃ es es2, State H' s m m2 es es2) (c := 29) (b := 0) (I := 28) (N := 27) (d := 174) rfl (by omega) (by decide) ⟨rfl, rfl⟩ (by simp) ?_ ?_ 0 () _ _ H0 (by omega) ⟨[], [], st⟩ (by simp [h4, h5]) (.refl _ _ _) h28 h27
  · intro i a l g H' hi ⟨es, es2, st⟩ hh hf hIx
    have h26' := hf.get 26 rfl h26 (by simp [hv.boxy])
    have h7' := hf.get 7 rfl h7 (by simp [GV.boxy])
    have h8' := hf.get 8 rfl h8 (by simp [GV.boxy])
    obtain ⟨lt, ix, opt, get, ⟨t, sl⟩, wr_, mem⟩ := at_ok (e := ipG) hv hi (by omega)
    generalize I[i]'hi = p at opt get mem
    obtain ⟨⟨ha, hb, hc, hd⟩, hr, hL, hel, hn⟩ := hin p mem
    simp only [Holds_cons, Holds_nil, and_true] at hh
    obtain ⟨hh4, hh5⟩ := hh
    have hone := hel.one
    have hcel := hel.cells
    have hok' := hel.ok
    have hle := hel.len
    have hue := elemsUnbox hel
    simp only [List.length_map] at hle
    have q1 : IntKind.i64.wrap ((p.1.x.a.length : Int) + p.1.x.b.length) = (p.1.x.a.length : Int) + p.1.x.b.length := wrap_i64' (by omega) (by omega)
    have q2 : IntKind.i64.wrap ((p.1.x.a.length : Int) + p.1.x.b.length + p.1.x.c.length) = (p.1.x.a.length : Int) + p.1.x.b.length + p.1.x.c.length := wrap_i64' (by omega) (by omega)
    have q3 : IntKind.i64.wrap ((p.1.x.a.length : Int) + p.1.x.b.length + p.1.x.c.length + p.1.x.d.length) = (p.1.x.a.length : Int) + p.1.x.b.length + p.1.x.c.length + p.1.x.d.length := wrap_i64' (by omega) (by omega)
    rw [sl] at h26'
    by_cases hl : 20 < p.1.L.length
    · have hl' : (20 : Int) < p.1.L.length := by omega
      simp [h26', hIx, hh4, hh5, ix, opt, get, itemC, elC, setPart, hone, hok', hle, hue, hl, hl']
      exact fun _ => hret _ _ _ (by simp)
    have hl' : ¬ (20 : Int) < p.1.L.length := by omega
    by_cases hs : (300 : Int) < (p.1.x.a.length : Int) + p.1.x.b.length + p.1.x.c.length + p.1.x.d.length
    · simp [h26', hIx, hh4, hh5, ix, opt, get, itemC, elC, setPart, hone, hok', hle, hue, hl, hl', q1, q2, q3, hs]
      exact fun _ => hret _ _ _ (by simp)
    have hx : ElFit p.1.x := ⟨by omega, by omega, by omega, by omega⟩
    have hre := fun H => ref_Elem p.1.x.k p.1.x.a p.1.x.b p.1.x.c p.1.x.d (by omega) (by omega) (by omega) (by omega) H
    simp [h26', hIx, hh4, hh5, ix, opt, get, itemC, elC, setPart, hone, hok', hle, hue, hl, hl', q1, q2, q3, hs, hre]
    rw [wp_blockK, wp_seqK, wp_blockK]
    refine ok_loop p.1.x hx p.1.L (by omega) p.2 hel g g4 g5 c4 c5 _ _ H' _ (by simp [elC]) (by simp) (by simp [hh4]) (by simp [hh5]) (by simp [hue]) (by simp) (by simp) ?_
    intro l2 g2 k10 k11 k4 k5 kf
    have k7 := kf.get 7 rfl (v := .ptr s 0) (by simp [h7']) (by simp [GV.boxy])
    have k8 := kf.get 8 rfl (v := .map m2) (by simp [h8']) (by simp [GV.boxy])
    have k28 := kf.get 28 rfl (v := .int .i64 i) (by simp [hIx]) (by simp [GV.boxy])
    have hlm := (List.getElem?_eq_some_iff.1 st.at_.om).1
    obtain ⟨H1, hput, hcase⟩ := store_Put st.at_ p.1.x hx hr p.1.L (by omega) hn p.2 hel hlm st.bl
    have hkey := el_key hx hr
    rw [okL_put] at k11
    simp only [itemC, elC, List.cons_append, List.nil_append] at hput k10
    rcases hcase with ⟨hb, hH⟩ | ⟨hb, v', hv', hH⟩
    · subst hH
      rw [hb] at hput k11
      obtain ⟨M, hM, m1, mm2⟩ := st.both p.1.x hx hr
      obtain ⟨w1, hent, hw1⟩ := store_Entries st.at_ p.1.x hx hr M (by omega) m1 st.bl
      have st' := st.kill M
      have hwl := hw1.len
      have hwu := elemsUnbox hw1
      have hwo := hw1.ok
      have hml := mm2.get.len
      have hmo := mm2.get.ok
      have hmu := elemsUnbox mm2.get
      have ho2 := st'.o2
      simp only [List.length_map] at hwl hml
      simp only [elG, elC] at hent hkey hml hmo hmu
      simp [k7, k8, k10, k11, hput, hent, hwl, hwu, hwo, hml, hmo, hmu, hkey, ho2, hone, setPart]
      rw [wp_blockK]
      refine same_loop p.1.x hx hr M (by omega) w1 hw1 p.2 hone g m2 g4 g5 c4 c5 es2 _ _ _ _ st'.o2 mm2 (by simp [k4]) (by simp [k5]) (by simp [k8]) (by simp [k10, elC]) (by simp [hwu]) (by simp) (by simp) ?_
      intro l3 g3 n4 n5 nf
      simp [n4, n5]
      exact fun _ => ⟨_, _, st'⟩
    · subst hH
      rw [hb] at hput k11
      have st2 := (st.kill p.1.L).laid hx hr p.1.L (by omega) hv' hel
      have hset := mset_any (H := { killH p.1.L H' with objs := (killH p.1.L H').objs.set m (.map true kLs (layM es p.1.x p.1.L v')) }) (m2 := m2) (es2 := es2) (by simp only; rw [List.getElem?_set_ne st.ne1]; exact (st.kill p.1.L).o2) (st.kill p.1.L).b2 hkey hel
      obtain ⟨M, hM, m1, mm2⟩ := st2.both p.1.x hx hr
      obtain ⟨w1, hent, hw1⟩ := store_Entries st2.at_ p.1.x hx hr M (by omega) m1 st2.bl
      have st' := st2.kill M
      have hwl := hw1.len
      have hwu := elemsUnbox hw1
      have hwo := hw1.ok
      have hml := mm2.get.len
      have hmo := mm2.get.ok
      have hmu := elemsUnbox mm2.get
      have ho2 := st'.o2
      simp only [List.length_map] at hwl hml
      simp only [laid2] at hent ho2
      simp only [elG, elC] at hent hkey hml hmo hmu hset ho2
      simp [k7, k8, k10, k11, hput, hset, hent, hwl, hwu, hwo, hml, hmo, hmu, hkey, ho2, hone, hok', hue, setPart]
      rw [wp_blockK]
      refine same_loop p.1.x hx hr M (by omega) w1 hw1 p.2 hone g m2 g4 g5 c4 c5 _ _ _ _ _ st'.o2 mm2 (by simp [k4]) (by simp [k5]) (by simp [k8]) (by simp [k10, elC]) (by simp [hwu]) (by simp) (by simp) ?_
      intro l3 g3 n4 n5 nf
      simp [n4, n5]
      exact fun _ => ⟨_, _, st'⟩
  · intro a l g H' ⟨es, es2, st⟩ hh hf
    simp only [Holds_cons, Holds_nil, and_true] at hh
    exact he l g H' hh.1 hh.2
end Go.Proofs.YthbhfipgdinihaaDoor

namespace Go.Proofs.YthbhfipgdinihaaDoor
open Go.Sh
set_option maxRecDepth 100000

theorem cmpI_swap (a b : Int) : cmpI b a = - cmpI a b := by unfold cmpI; split <;> (try split) <;> (try split) <;> omega
theorem cmpI_range (a b : Int) : -1 ≤ cmpI a b ∧ cmpI a b ≤ 1 := by unfold cmpI; split <;> (try split) <;> omega

theorem ordE_swap (x y : El) : ordE y x = - ordE x y := by
  unfold ordE
  rw [cmpI_swap x.k y.k, lex_swap x.a y.a, lex_swap x.b y.b, lex_swap x.c y.c, lex_swap x.d y.d]
  simp only [orL]
  repeat' split
  all_goals omega
theorem ordE_range (x y : El) : -1 ≤ ordE x y ∧ ordE x y ≤ 1 := by
  unfold ordE
  have h1 := cmpI_range x.k y.k
  have h2 := lex_range x.a y.a
  have h3 := lex_range x.b y.b
  have h4 := lex_range x.c y.c
  have h5 := lex_range x.d y.d
  simp only [orL]
  repeat' split
  all_goals omega

set_option maxHeartbeats 4000000 in
theorem storePuts_ok (I : List IP) (hI : I.length ≤ 9223372036854775807) (hin : ∀ p ∈ I, IIn p) (v : GV) (hv : Elems 6 v (I.map ipG)) (a b : El) (H : GH) (hbo : H.bo ≤ H.objs.length) :
    ∃ H', ecall T f_hedgerowlaw07_StorePuts [v, elG a, elG b] H = some (.bool true, H') := by
  have hfx := fixed_ok
  have key : optW (ecall T f_hedgerowlaw07_StorePuts [v, elG a, elG b] H) fun r => ∃ H', r = (.bool true, H') := by
    rw [ecall_0 T_hedgerowlaw07_StorePuts rfl (by simp [F_hedgerowlaw07_StorePuts]), wp_fin1]
    simp only [F_hedgerowlaw07_StorePuts, b_hedgerowlaw07_StorePuts]
    have hle := hv.len
    have hue := elemsUnbox hv
    have hok := hv.ok
    have hnew := fun H => store_New H
    simp only [List.length_map] at hle
    by_cases hl : 20 < I.length
    · have hl' : (20 : Int) < I.length := by omega
      simp [hfx, hle, hue, hok, hl, hl', elC]
    have hl' : ¬ (20 : Int) < I.length := by omega
    simp [hfx, hle, hue, hok, hl, hl', elC, hnew, GH.newObj]
    rw [wp_seqK, wp_blockK]
    refine items_loop I (by omega) hin v hv (H.objs.length + 1) H.objs.length (H.objs.length + 2) 0 1 (elC a) (elC b) _ _ _ _ (by simp [elC]) (by simp [elC]) (by simp) (by simp) (by simp [hue]) (by simp) (by simp) ?_ ?_ ?_
    · refine ⟨⟨by simp, by simp, hbo⟩, by simp [List.getElem?_append], by simp; omega, by simp; omega, by omega, by omega, by omega, (fun p hp => by cases hp), (fun p hp => by cases hp), both_nil⟩
    · intro l g H' h4 h5
      have r1 := ref_Less a b H'
      have r2 := ref_Less b a H'
      have r3 := store_Order a b H'
      have sw := ordE_swap a b
      have ra := ordE_range a b
      simp only [elC] at r1 r2 r3 h4 h5
      by_cases o1 : ordE a b < 0
      · have e1 : lessE a b = true := by simp [lessE, o1]
        have e2 : ordE a b = -1 := by omega
        rw [e1] at r1
        rw [e2] at r3
        simp [h4, h5, r1, r3]
      · have e1 : lessE a b = false := by simp [lessE, o1]
        rw [e1] at r1
        by_cases o2 : ordE b a < 0
        · have e3 : lessE b a = true := by simp [lessE, o2]
          have e2 : ordE a b = 1 := by omega
          rw [e3] at r2
          rw [e2] at r3
          simp [h4, h5, r1, r2, r3]
        · have e3 : lessE b a = false := by simp [lessE, o2]
          have e2 : ordE a b = 0 := by omega
          rw [e3] at r2
          rw [e2] at r3
          simp [h4, h5, r1, r2, r3]
    · intro l g H' h6
      simp [h6]
  obtain ⟨⟨r, H'⟩, h1, H2, h2⟩ := key
  simp only [Prod.mk.injEq] at h2
  exact ⟨H', by rw [h1, h2.1]⟩
end Go.Proofs.YthbhfipgdinihaaDoor
