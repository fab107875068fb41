/- Own work: the shadow machine and what it shows, part Co. -/
import Derived.Test.YthmplnbogdfajaaGreatDoorSt
set_option linter.all false

namespace Go.Proofs.YthmplnbogdfajaaGreatDoor
open Go.Sh
set_option maxHeartbeats 4000000
set_option maxRecDepth 100000

/-! ## All items, and how many entries there are -/

theorem lib15 {T : Nat → Option IFun} {f : Nat} {fn : List GV → GH → Option (GV × GH)} (hF : T f = some ⟨8, [], .trap, 0, 15, fn⟩) {args : List GV} {H : GH} {r : GV × GH} (hn : args.length ≤ 8) (h : fn args H = some r) : ecall T f args H = some (r.1, H) := by
  rw [ecall_lib hF (by show 10 ≤ 15; decide) hn]
  simp only [libH]
  rw [if_pos (by decide)]
  simp [libP, h]

def sortS (S : List Stp) : List Stp := isort (ltC cfS) S
def cntS (S : List Stp) : Nat := (S.map fun p => p.2.length).sum

theorem mapO_len {α β : Type} {f : α → Option β} : ∀ {l : List α} {r : List β}, mapO f l = some r → l.length = r.length
  | [], r, h => by simp only [mapO, Option.some.injEq] at h; subst h; rfl
  | x :: l, r, h => by
    simp only [mapO] at h
    split at h
    · rename_i a b ha hb
      injection h with h; subst h
      rw [List.length_cons, List.length_cons, mapO_len hb]
    · cases h
theorem lensOf_dec : ∀ {es : List (GV × GV)} {S : List Stp}, mapO decP es = some S → lensOf es = some (cntS S)
  | [], S, h => by simp only [mapO, Option.some.injEq] at h; subst h; rfl
  | p :: es, S, h => by
    simp only [mapO] at h
    split at h
    · rename_i a b ha hb
      injection h with h; subst h
      obtain ⟨_, ⟨t, ht⟩, _⟩ := decP_eq ha
      rw [lensOf, lensOf_dec hb, ht]
      simp [gLenS, cntS]
    · cases h

theorem sortS_perm (S : List Stp) : (sortS S).Perm S := isort_perm _
theorem sortS_len (S : List Stp) : (sortS S).length = S.length := (sortS_perm S).length_eq

theorem all_ok {H : GH} {s m : Nat} {S : List Stp} (h : Sto H s m S) (hl : S.length ≤ 100000) : ∃ v, ecall T2 f_store_Store_All [.ptr s 0] H = some (v, H) ∧ Elems 6 v ((sortS S).map itG) := by
  obtain ⟨⟨es, ha, hd⟩, hp⟩ := h
  have hf : allFn [.ptr s 0] H = some (if S.isEmpty then .nilsl else .sl 6 ((sortS S).map itG) .imm, H) := by
    simp only [allFn, ha.os, ha.om, hd, mapO_len hd]
    rw [if_pos ⟨trivial, hl⟩]
    simp only [Option.bind_some, apart_of.2 hp, if_true]
    rfl
  refine ⟨_, lib15 T2_All (by simp) hf, ?_⟩
  show Elems 6 (if S.isEmpty then GV.nilsl else _) _
  cases S with
  | nil => exact .nil
  | cons p S => exact .sl _ _

theorem len_ok {H : GH} {s m : Nat} {S : List Stp} (h : Sto H s m S) (hl : cntS S ≤ 4611686018427387904) : ecall T2 f_store_Store_Len [.ptr s 0] H = some (.int .i64 (cntS S), H) := by
  obtain ⟨⟨es, ha, hd⟩, hp⟩ := h
  have hf : lenFn [.ptr s 0] H = some (.int .i64 (cntS S), H) := by
    simp only [lenFn, ha.os, ha.om, lensOf_dec hd, Option.bind_some]
    rw [if_pos hl]
  exact lib15 (T2_up _ _ T_store_Store_Len) (by simp) hf

theorem getS_mem {S : List Stp} (hp : Apart S) {p : Stp} (h : p ∈ S) : getS S p.1 = p.2 := by
  unfold getS
  induction S with
  | nil => cases h
  | cons q S ih =>
    rw [List.find?_cons]
    unfold Apart at hp
    rw [List.map_cons, List.nodup_cons] at hp
    rcases List.mem_cons.1 h with rfl | h
    · simp
    · have : ¬ q.1 = p.1 := fun e => hp.1 (by rw [e]; exact List.mem_map_of_mem h)
      simp only [this, decide_false]
      exact ih hp.2 h
theorem mem_getS {S : List Stp} {x : El} (h : getS S x ≠ []) : (x, getS S x) ∈ S := by
  unfold getS at h ⊢
  cases hf : S.find? (fun p => decide (p.1 = x)) with
  | none => rw [hf] at h; exact absurd rfl h
  | some p =>
    have h1 := List.mem_of_find?_eq_some hf
    have h2 : p.1 = x := by simpa using List.find?_some hf
    simp only [Option.map_some, Option.getD_some]
    rw [← h2]; exact h1

/-- Stores that have the same of all elements. -/
theorem same_perm {S S' : List Stp} (hp : Apart S) (hp' : Apart S') (hn : ∀ p ∈ S, p.2 ≠ []) (hn' : ∀ p ∈ S', p.2 ≠ []) (h : ∀ x, getS S x = getS S' x) : S.Perm S' := by
  have nd : ∀ {S : List Stp}, Apart S → S.Nodup := fun {S} h => (List.pairwise_map.1 h).imp fun h e => h (by rw [e])
  rw [List.perm_iff_count]
  intro p
  have key : p ∈ S ↔ p ∈ S' := by
    constructor
    · intro hm
      have e := getS_mem hp hm
      have : getS S' p.1 ≠ [] := by rw [← h, e]; exact hn p hm
      have := mem_getS this
      rw [← h, e] at this; exact this
    · intro hm
      have e := getS_mem hp' hm
      have : getS S p.1 ≠ [] := by rw [h, e]; exact hn' p hm
      have := mem_getS this
      rw [h, e] at this; exact this
  by_cases hm : p ∈ S
  · rw [(nd hp).count, (nd hp').count, if_pos hm, if_pos (key.1 hm)]
  · rw [(nd hp).count, (nd hp').count, if_neg hm, if_neg (fun h => hm (key.2 h))]

theorem sort_same {S S' : List Stp} (hp : Apart S) (hp' : Apart S') (h : S.Perm S') : sortS S = sortS S' :=
  isort_perm_eq h (apart_of.2 hp')
theorem cnt_perm {S S' : List Stp} (h : S.Perm S') : cntS S = cntS S' := (h.map _).sum_nat
end Go.Proofs.YthmplnbogdfajaaGreatDoor

namespace Go.Proofs.YthmplnbogdfajaaGreatDoor
open Go.Sh
set_option maxHeartbeats 4000000
set_option maxRecDepth 100000

/-! ## The loop of Do -/

theorem causl_app : ∀ {v : List Int} {a b : List Evt}, Causl v (a ++ b) ↔ Causl v a ∧ Causl (setAll v a) b
  | v, [], b => by simp [Causl, setAll]
  | v, e :: a, b => by
    rw [List.cons_append]
    simp only [Causl, setAll, List.foldl_cons, causl_app, and_assoc]

/-- A row of events as it comes: a causal one. -/
structure Row (R : List Evt) : Prop where
  fit : ∀ e ∈ R, EvFit e
  causl : Causl zero16 R
  le : R.length ≤ 60

theorem Row.at_ {R : List Evt} (h : Row R) {i : Nat} {e : Evt} (hi : R[i]? = some e) : Good (setAll zero16 (R.take i)) i (doAll (R.take i)) ∧ fitsB (setAll zero16 (R.take i)) e = true ∧ doAll (R.take (i + 1)) = doF (doAll (R.take i)) e := by
  have hlt := (List.getElem?_eq_some_iff.1 hi).1
  have ht : R.take (i + 1) = R.take i ++ [e] := by rw [List.take_add_one, hi]; rfl
  have hc : Causl zero16 (R.take (i + 1)) := by
    have := h.causl
    rw [← List.take_append_drop (i + 1) R] at this
    exact (causl_app.1 this).1
  rw [ht] at hc
  have hc := causl_snoc.1 hc
  refine ⟨?_, hc.2, by unfold doAll; rw [ht, List.foldl_append]; rfl⟩
  have := good_all (R.take i) Good.nil rfl (fun e he => h.fit e (List.mem_of_mem_take he)) hc.1
  rw [Nat.zero_add, List.length_take, Nat.min_eq_left (by omega)] at this
  exact this

theorem Row.good {R : List Evt} (h : Row R) : Good (setAll zero16 R) R.length (doAll R) := by
  have := good_all R Good.nil rfl h.fit h.causl
  rwa [Nat.zero_add] at this

theorem Row.step {R : List Evt} (h : Row R) {i : Nat} {e : Evt} (hi : R[i]? = some e) {H : GH} {s m : Nat} (hS : Sto H s m (doAll (R.take i))) (hbo : H.bo ≤ H.objs.length) :
    ∃ H1, ecall T2 f_store_Store_Do [.ptr s 0, .agg (evC e)] H = some (.int .i64 0, H1) ∧ Sto H1 s m (doAll (R.take (i + 1))) ∧ Stepm m H H1 := by
  obtain ⟨hg, hf, he⟩ := h.at_ hi
  have hb := (fits_iff hf).1
  have hlt := (List.getElem?_eq_some_iff.1 hi).1
  have := h.le
  have hl := hg.len e.x
  rw [he]
  exact do_step hS e (h.fit e (List.mem_of_getElem? hi)) (elem_range (evB_elem hb)) (hg.dots _) (by omega) hb hbo

/-- StoreCopies: the loop of Do. -/
theorem copies_do {R : List Evt} (hR : Row R) (vr : GV) (hvr : Elems 27 vr (R.map evG)) (s m : Nat) (l0 : List GV) (g0 : Nat) (H0 : GH) (hS : Sto H0 s m []) (hbo : H0.bo ≤ H0.objs.length) (K : GExit × St → Prop)
    (h28 : lget l0 28 = vr) (h29 : lget l0 29 = .int .i64 R.length) (h30 : lget l0 30 = .int .i64 0) (h7 : lget l0 7 = .ptr s 0)
    (he : ∀ l g H, Sto H s m (doAll R) → Stepm m H0 H → Fr L0_hedgerowlaw07_StoreCopies l0 l → K (.exit 0, ⟨⟨l, g⟩, H⟩)) :
    optW (erun T2 (.loop L0_hedgerowlaw07_StoreCopies) ⟨⟨l0, g0⟩, H0⟩) K := by
  have hle := hR.le
  refine range_loop (T := T2) (n := R.length) (A := Unit) (fun _ _ => []) (fun i _ _ H' => Sto H' s m (doAll (R.take i)) ∧ Stepm m H0 H') (c := 31) (b := 0) (I := 30) (N := 29) (d := 37) rfl (by omega) (by decide) ⟨rfl, rfl⟩ (by simp) ?_ ?_ 0 () _ _ H0 (by omega) ⟨hS, .refl _ _⟩ (by simp) (.refl _ _ _) h30 h29
  · intro i a l g H' hi ⟨hA, hSt⟩ hh hf hI
    have h28' := hf.get 28 rfl h28 (by simp [hvr.boxy])
    have h7' := hf.get 7 rfl h7 rfl
    obtain ⟨lt, ix, opt, get, ⟨t, sv⟩, wr_, mem⟩ := at_ok (e := evG) hvr hi (by omega)
    generalize R[i]'hi = e at opt get mem
    have hfe := hR.fit e mem
    have l1 := ev_len hfe.past
    have l4 : List.take 27 (evC e) = evC e := List.take_of_length_le (by rw [l1]; exact Nat.le_refl _)
    have lo := ev_one hfe.past
    have sp := ev_set hfe.past
    obtain ⟨H1, hd, hA1, hSt1⟩ := hR.step opt hA (hSt.bole hbo)
    rw [sv] at h28'
    simp [h28', h7', hI, ix, opt, get, sp, l1, l4, lo, hd]
    exact fun _ => ⟨hA1, hSt.trans hSt1⟩
  · intro a l g H' ⟨hA, hSt⟩ hh hf
    rw [List.take_length] at hA
    exact he l g H' hA hSt hf

/-! ## Items that are put -/

theorem dec_ne : ∀ {es : List (GV × GV)} {S : List Stp}, mapO decP es = some S → ∀ p ∈ S, p.2 ≠ []
  | [], S, h => by simp only [mapO, Option.some.injEq] at h; subst h; intro p hp; cases hp
  | q :: es, S, h => by
    simp only [mapO] at h
    split at h
    · rename_i a b ha hb
      injection h with h; subst h
      intro p hp
      rcases List.mem_cons.1 hp with rfl | hp
      · exact (decP_eq ha).2.2.ne
      · exact dec_ne hb p hp
    · cases h
theorem Sto.ne_nil {H : GH} {s m : Nat} {S : List Stp} (h : Sto H s m S) : ∀ p ∈ S, p.2 ≠ [] := by
  obtain ⟨⟨es, _, hd⟩, _⟩ := h
  exact dec_ne hd

theorem Good.okPut {v : List Int} {n : Nat} {S : List Stp} (h : Good v n S) {x : El} (hx : getS S x ≠ []) : okPutB x (getS S x) = true := by
  unfold okPutB okAt
  rw [Bool.and_eq_true, List.all_eq_true]
  refine ⟨(h.el x hx).1, fun i hi => ?_⟩
  rw [List.mem_range] at hi
  have e1 : (getS S x).getD i default = (getS S x)[i] := by rw [List.getD_eq_getElem?_getD, List.getElem?_eq_getElem hi]; rfl
  rw [e1, Bool.and_eq_true, Bool.or_eq_true]
  refine ⟨(h.ent x _ (List.getElem_mem hi)).1, ?_⟩
  by_cases h0 : i = 0
  · exact .inl (decide_eq_true h0)
  · right
    have e2 : (getS S x).getD (i - 1) default = (getS S x)[i - 1] := by rw [List.getD_eq_getElem?_getD, List.getElem?_eq_getElem (by omega)]; rfl
    rw [e2]
    exact decide_eq_true ((List.pairwise_iff_getElem.1 (h.dots x)) (i - 1) i (by omega) hi (by omega))

theorem killH_more' (L : List Ent) (H : GH) : More H (killH L H) := killH_more L H

theorem put_step {H : GH} {s m : Nat} {S : List Stp} (h : Sto H s m S) (x : El) (hx : ElFit x) (hr : ElRange x) (L : List Ent) (hL : L.length ≤ 100000) (hfit : ∀ e ∈ L, EntFit e) (hok : okPutB x L = true) (v : GV) (hv : Elems 5 v (L.map entG)) (hbo : H.bo ≤ H.objs.length) :
    ∃ H1, ecall T2 f_store_Store_Put [.ptr s 0, .agg (itemC x v)] H = some (.int .i64 0, H1) ∧ Sto H1 s m (putS S x L) ∧ Stepm m H H1 := by
  obtain ⟨⟨es, ha, hd⟩, hp⟩ := h
  obtain ⟨H', h1, h2⟩ := store_Put ha x hx hr L hL hfit v hv (List.getElem?_eq_some_iff.1 ha.om).1 hbo
  rw [hok] at h1
  rcases h2 with ⟨h2, _⟩ | ⟨_, v', hv', rfl⟩
  · rw [hok] at h2; cases h2
  have := Sto.lay ha hd hp (killH_more L H) hx hr (by omega) hv'
  exact ⟨_, up h1, this.1, this.2⟩
end Go.Proofs.YthmplnbogdfajaaGreatDoor

namespace Go.Proofs.YthmplnbogdfajaaGreatDoor
open Go.Sh
set_option maxHeartbeats 4000000
set_option maxRecDepth 100000

/-! ## Items that are put in another order -/

def putQ (A : List Stp) (t : Nat) : Nat → List Stp
  | 0 => []
  | i + 1 => match A[(i + t) % A.length]? with
    | some p => putS (putQ A t i) p.1 p.2
    | none => putQ A t i

structure ItOk (p : Stp) : Prop where
  fit : ElFit p.1
  range : ElRange p.1
  le : p.2.length ≤ 100000
  ent : ∀ e ∈ p.2, EntFit e
  ok : okPutB p.1 p.2 = true

theorem copies_put (A : List Stp) (hA : A.length ≤ 1000) (hok : ∀ p ∈ A, ItOk p) (v : GV) (hv : Elems 6 v (A.map itG)) (t : Nat) (ht : t ≤ 255) (s m : Nat) (l0 : List GV) (g0 : Nat) (H0 : GH) (hS : Sto H0 s m []) (hbo : H0.bo ≤ H0.objs.length) (K : GExit × St → Prop)
    (h11 : lget l0 11 = v) (h41 : lget l0 41 = .int .i64 A.length) (h42 : lget l0 42 = .int .i64 0) (h8 : lget l0 8 = .ptr s 0) (h1 : lget l0 1 = .int .u8 t)
    (he : ∀ l g H, Sto H s m (putQ A t A.length) → Stepm m H0 H → Fr L1_hedgerowlaw07_StoreCopies l0 l → K (.exit 2, ⟨⟨l, g⟩, H⟩)) :
    optW (erun T2 (.loop L1_hedgerowlaw07_StoreCopies) ⟨⟨l0, g0⟩, H0⟩) K := by
  refine range_loop (T := T2) (n := A.length) (A := Unit) (fun _ _ => []) (fun i _ _ H' => Sto H' s m (putQ A t i) ∧ Stepm m H0 H') (c := 43) (b := 2) (I := 42) (N := 41) (d := 58) rfl (by omega) (by decide) ⟨rfl, rfl⟩ (by simp) ?_ ?_ 0 () _ _ H0 (by omega) ⟨hS, .refl _ _⟩ (by simp) (.refl _ _ _) h42 h41
  · intro i a l g H' hi ⟨hB, hSt⟩ hh hf hI
    have h11' := hf.get 11 rfl h11 (by simp [hv.boxy])
    have h8' := hf.get 8 rfl h8 rfl
    have h1' := hf.get 1 rfl h1 rfl
    have hl := hv.len
    simp only [List.length_map] at hl
    have hk : (i + t) % A.length < A.length := Nat.mod_lt _ (by omega)
    have hm : ((i : Int) + t).tmod (A.length : Int) = (((i + t) % A.length : Nat) : Int) := by
      rw [← Int.natCast_add, ← Int.ofNat_tmod]
    have hne : ¬ (A.length : Int) = 0 := by omega
    have hgr : gInt .rem .i64 ((i : Int) + t) (A.length : Int) = some (.int .i64 (((i + t) % A.length : Nat) : Int)) := by rw [gInt_rem, if_neg hne, hm]
    have hq0 : ∀ p, A[(i + t) % A.length]? = some p → putQ A t (i + 1) = putS (putQ A t i) p.1 p.2 := fun p opt => by rw [putQ, opt]
    clear hm
    generalize (i + t) % A.length = k at hk hgr hq0
    obtain ⟨lt, ix, opt, get, ⟨tg, sv⟩, wr_, mem⟩ := at_ok (e := itG) hv hk (by omega)
    generalize A[k]'hk = p at opt get mem
    have hp := hok p mem
    obtain ⟨H1, hd, hB1, hSt1⟩ := put_step hB p.1 hp.fit hp.range p.2 hp.le hp.ent hp.ok (.sl 5 (p.2.map entG) .imm) (.sl _ _) (hSt.bole hbo)
    have hq := hq0 p opt
    have w1 : IntKind.i64.wrap (t : Int) = t := wrap_i64' (by omega) (by omega)
    have w2 : IntKind.i64.wrap ((i : Int) + t) = (i : Int) + t := wrap_i64' (by omega) (by omega)
    have hcl : (itG p).cells = [.int .i64 p.1.k, .str (mkB p.1.a), .str (mkB p.1.b), .str (mkB p.1.c), .str (mkB p.1.d), .sl 5 (p.2.map entG) .imm] := rfl
    rw [sv] at h11'
    simp only [itemC, elC, List.cons_append, List.nil_append] at hd
    simp [h11', h8', h1', hI, hl, w1, w2, hgr, ix, opt, get, hcl, hd]
    exact fun _ => ⟨by rw [hq]; exact hB1, hSt.trans hSt1⟩
  · intro a l g H' ⟨hB, hSt⟩ hh hf
    exact he l g H' hB hSt hf

/-! ## Both have the same items -/

theorem ba_self (a : ByteArray) : (a == a) = true := by
  rcases a with ⟨a⟩
  show (a == a) = true
  exact beq_self_eq_true _
theorem ent_refl (e : Ent) : leavesEq [.int .i64, .int .i64, .int .i64, .int .i64, .str] (entC e) (entC e) = some true := by
  simp [leavesEq, leafEq, entC, ba_self]
theorem el_refl (x : El) : leavesEq [.int .i64, .str, .str, .str, .str] (elC x) (elC x) = some true := by
  simp [leavesEq, leafEq, elC, ba_self]

theorem itG_cells (p : Stp) : (itG p).cells = [.int .i64 p.1.k, .str (mkB p.1.a), .str (mkB p.1.b), .str (mkB p.1.c), .str (mkB p.1.d), .sl 5 (p.2.map entG) .imm] := rfl
theorem entG_cells (e : Ent) : (entG e).cells = entC e := rfl

theorem copies_same2 (A : List Stp) (hA : A.length ≤ 1000) (v1 v2 : GV) (hv1 : Elems 6 v1 (A.map itG)) (hv2 : Elems 6 v2 (A.map itG)) (k : Nat) (p : Stp) (hp : A[k]? = some p) (hL : p.2.length ≤ 100000) (l0 : List GV) (g0 : Nat) (H0 : GH) (K : GExit × St → Prop)
    (h13 : lget l0 13 = v1) (h11 : lget l0 11 = v2) (h14 : lget l0 14 = .int .i64 k) (h109 : lget l0 109 = .int .i64 p.2.length) (h110 : lget l0 110 = .int .i64 0)
    (he : ∀ l g, Fr L2_hedgerowlaw07_StoreCopies l0 l → K (.exit 6, ⟨⟨l, g⟩, H0⟩)) :
    optW (erun T2 (.loop L2_hedgerowlaw07_StoreCopies) ⟨⟨l0, g0⟩, H0⟩) K := by
  refine range_loop (T := T2) (n := p.2.length) (A := Unit) (fun i _ => []) (fun i _ _ H' => H' = H0) (c := 111) (b := 6) (I := 110) (N := 109) (d := 130) rfl (by omega) (by decide) ⟨rfl, rfl⟩ (by simp) ?_ ?_ 0 () _ _ H0 (by omega) rfl (by simp) (.refl _ _ _) h110 h109
  · intro i a l g H' hi hH hh hf hI
    subst hH
    have h13' := hf.get 13 rfl h13 (by simp [hv1.boxy])
    have h11' := hf.get 11 rfl h11 (by simp [hv2.boxy])
    have h14' := hf.get 14 rfl h14 rfl
    have hkl := (List.getElem?_eq_some_iff.1 hp).1
    have hpk := (List.getElem?_eq_some_iff.1 hp).2
    obtain ⟨_, ix1, opt1, get1, ⟨t1, sl1⟩, _, _⟩ := at_ok (e := itG) hv1 hkl (by omega)
    obtain ⟨_, ix2, opt2, get2, ⟨t2, sl2⟩, _, _⟩ := at_ok (e := itG) hv2 hkl (by omega)
    obtain ⟨_, ix3, opt3, get3, _, _, _⟩ := at_ok (e := entG) (.sl (sz := 5) (p.2.map entG) .imm) hi (by omega)
    rw [hpk] at opt1 get1 opt2 get2
    generalize p.2[i]'hi = e at opt3 get3
    have er := ent_refl e
    simp only [entC] at er
    rw [sl1] at h13'
    rw [sl2] at h11'
    simp [h13', h11', h14', hI, ix1, opt1, ix3, opt3, itG_cells, entC, er]
  · intro a l g H' hH hh hf
    subst hH
    exact he l g hf

theorem copies_same (A : List Stp) (hA : A.length ≤ 1000) (hok : ∀ p ∈ A, p.2.length ≤ 100000) (v1 v2 : GV) (hv1 : Elems 6 v1 (A.map itG)) (hv2 : Elems 6 v2 (A.map itG)) (l0 : List GV) (g0 : Nat) (H0 : GH) (K : GExit × St → Prop)
    (h13 : lget l0 13 = v1) (h11 : lget l0 11 = v2) (h74 : lget l0 74 = .int .i64 A.length) (h75 : lget l0 75 = .int .i64 0)
    (he : ∀ l g, K (.exit 4, ⟨⟨l, g⟩, H0⟩)) :
    optW (erun T2 (.loop L3_hedgerowlaw07_StoreCopies) ⟨⟨l0, g0⟩, H0⟩) K := by
  refine range_loop (T := T2) (n := A.length) (A := Unit) (fun i _ => []) (fun i _ _ H' => H' = H0) (c := 76) (b := 4) (I := 75) (N := 74) (d := 131) rfl (by omega) (by decide) ⟨rfl, rfl⟩ (by simp) ?_ ?_ 0 () _ _ H0 (by omega) rfl (by simp) (.refl _ _ _) h75 h74
  · intro i a l g H' hi hH hh hf hI
    subst hH
    have h13' := hf.get 13 rfl h13 (by simp [hv1.boxy])
    have h11' := hf.get 11 rfl h11 (by simp [hv2.boxy])
    obtain ⟨_, ix1, opt1, get1, ⟨t1, sl1⟩, _, mem⟩ := at_ok (e := itG) hv1 hi (by omega)
    obtain ⟨_, ix2, opt2, get2, ⟨t2, sl2⟩, _, _⟩ := at_ok (e := itG) hv2 hi (by omega)
    generalize A[i]'hi = p at opt1 get1 opt2 get2 mem
    have er := el_refl p.1
    simp only [elC] at er
    have k13 := h13'
    have k11 := h11'
    rw [sl1] at h13'
    rw [sl2] at h11'
    simp [h13', h11', hI, ix1, opt1, itG_cells, er]
    rw [wp_blockK, wp_blockK]
    refine copies_same2 A hA v1 v2 hv1 hv2 i p opt1 (hok p mem) _ _ H' _ (by simp [k13, sl1]) (by simp [k11, sl2]) (by simp) (by simp) (by simp) ?_
    intro l2 g2 hf2
    simp
  · intro a l g H' hH hh hf
    subst hH
    exact he l g

/-! ## What is there then -/

theorem putQ_ok {S A : List Stp} (hp : Apart S) (hA : A.Perm S) (t : Nat) : ∀ i, (∀ x, getS (putQ A t i) x = [] ∨ getS (putQ A t i) x = getS S x) ∧ (∀ j < i, ∀ p, A[(j + t) % A.length]? = some p → getS (putQ A t i) p.1 = p.2)
  | 0 => ⟨fun x => .inl rfl, fun j hj => by omega⟩
  | i + 1 => by
    obtain ⟨h1, h2⟩ := putQ_ok hp hA t i
    have hs : ∀ p, p ∈ A → getS S p.1 = p.2 := fun p hm => getS_mem hp (hA.mem_iff.1 hm)
    rw [putQ]
    split
    · rename_i p hpi
      have hpm := List.mem_of_getElem? hpi
      refine ⟨fun x => ?_, fun j hj q hq => ?_⟩
      · rw [getS_put]
        split
        · rename_i e
          exact .inr (by rw [e, hs p hpm])
        · exact h1 x
      · rw [getS_put]
        split
        · rename_i e
          rw [← hs p hpm, ← e, hs q (List.mem_of_getElem? hq)]
        · rename_i e
          rcases Nat.lt_or_ge j i with hji | hji
          · exact h2 j hji q hq
          · have : j = i := by omega
            rw [this, hpi] at hq
            injection hq with hq
            exact absurd (by rw [hq]) e
    · rename_i hpi
      refine ⟨h1, fun j hj q hq => ?_⟩
      rcases Nat.lt_or_ge j i with hji | hji
      · exact h2 j hji q hq
      · have : j = i := by omega
        rw [this, hpi] at hq; cases hq

theorem turn_all (n t a : Nat) (ha : a < n) : ∃ j < n, (j + t) % n = a := by
  have h0 : 0 < n := by omega
  refine ⟨(a + (n - t % n)) % n, Nat.mod_lt _ h0, ?_⟩
  have hr := Nat.mod_lt t h0
  rw [Nat.mod_add_mod]
  have e : t = n * (t / n) + t % n := (Nat.div_add_mod t n).symm
  generalize t / n = q at e
  generalize t % n = r at e hr
  rw [e, show a + (n - r) + (n * q + r) = (a + n) + n * q by omega, Nat.add_mul_mod_self_left, Nat.add_mod_right]
  exact Nat.mod_eq_of_lt ha

theorem putQ_same {S A : List Stp} (hp : Apart S) (hne : ∀ p ∈ S, p.2 ≠ []) (hA : A.Perm S) (t : Nat) (x : El) : getS (putQ A t A.length) x = getS S x := by
  obtain ⟨h1, h2⟩ := putQ_ok hp hA t A.length
  by_cases h : getS S x = []
  · rcases h1 x with h3 | h3
    · rw [h3, h]
    · exact h3
  · have hm := hA.mem_iff.2 (mem_getS h)
    obtain ⟨a, ha, hae⟩ := List.mem_iff_getElem.1 hm
    obtain ⟨j, hj, hje⟩ := turn_all A.length t a ha
    exact h2 j hj (x, getS S x) (by rw [hje, List.getElem?_eq_getElem ha, hae])
theorem putQ_len (A : List Stp) (t : Nat) : ∀ i, (putQ A t i).length ≤ i
  | 0 => Nat.le_refl _
  | i + 1 => by
    have := putQ_len A t i
    rw [putQ]
    split
    · exact Nat.le_trans (putS_len _ _ _) (Nat.succ_le_succ this)
    · omega
end Go.Proofs.YthmplnbogdfajaaGreatDoor

namespace Go.Proofs.YthmplnbogdfajaaGreatDoor
open Go.Sh
set_option maxHeartbeats 4000000
set_option maxRecDepth 100000

/-! ## StoreCopies -/

structure EvIn (e : Evt) : Prop where
  big : EvBig e
  n1 : -9223372036854775808 ≤ e.vn
  n2 : e.vn ≤ 9223372036854775807

theorem EvIn.fit {e : Evt} (h : EvIn e) (hs : elSum e.x + e.vt.length ≤ 300) : EvFit e := by
  unfold elSum at hs
  exact ⟨h.big.past, ⟨by omega, by omega, by omega, by omega⟩, by omega, h.n1, h.n2⟩

theorem row_of {E : List Evt} (hE : E.length ≤ 60) (hf : ∀ e ∈ E, EvFit e) : Row (causal E).1 := by
  obtain ⟨h1, h2, h3⟩ := causal_causl E
  exact ⟨fun e he => hf e (h3 e he), h1, Nat.le_trans (causal_out E).1 hE⟩

def newH (H : GH) : GH := { H with objs := H.objs ++ [.map true kLs [], .cells 75 [.map H.objs.length]] }
theorem new_ok (H : GH) : ecall T2 f_store_New [] H = some (.ptr (H.objs.length + 1) 0, newH H) := up (store_New H)
theorem Sto.new (H : GH) (hbo : H.bo ≤ H.objs.length) : Sto (newH H) (H.objs.length + 1) H.objs.length [] :=
  ⟨⟨[], ⟨by simp [newH], by simp [newH], hbo⟩, rfl⟩, List.nodup_nil⟩
theorem new_more (H : GH) : More H (newH H) := ⟨_, rfl⟩

theorem Good.item {v : List Int} {n : Nat} {S : List Stp} (h : Good v n S) (hn : n ≤ 1000) (hp : Apart S) (hne : ∀ p ∈ S, p.2 ≠ []) : ∀ p ∈ sortS S, ItOk p := fun p hm => by
  have hm := (sortS_perm S).mem_iff.1 hm
  have e := getS_mem hp hm
  have h0 : getS S p.1 ≠ [] := by rw [e]; exact hne p hm
  have hl := h.len p.1
  have ho := h.okPut h0
  rw [e] at hl ho
  exact ⟨(h.el _ h0).2, elem_range (h.el _ h0).1, by omega, fun y hy => (h.ent p.1 y (by rw [e]; exact hy)).2, ho⟩

theorem cnt_le : ∀ {S : List Stp} {n : Nat}, (∀ p ∈ S, p.2.length ≤ n) → cntS S ≤ S.length * n
  | [], n, _ => by simp [cntS]
  | p :: S, n, h => by
    have h1 := h p List.mem_cons_self
    have h2 := cnt_le fun q hq => h q (List.mem_cons_of_mem _ hq)
    have : cntS (p :: S) = p.2.length + cntS S := by simp [cntS]
    rw [this, List.length_cons, Nat.succ_mul]; omega

theorem storeCopies_ok (E : List Evt) (hE : E.length ≤ 9223372036854775807) (hin : ∀ e ∈ E, EvIn e) (ve : GV) (hve : Elems 27 ve (E.map evG)) (t : Nat) (ht : t ≤ 255) (H : GH) (hbo : H.bo ≤ H.objs.length) (hbt : H.bt ≤ H.toks.length) :
    ∃ H', ecall T2 f_hedgerowlaw07_StoreCopies [ve, .int .u8 t] H = some (.bool true, H') := by
  have hfx := fixed7_ok
  obtain ⟨fb, hfew, hfb⟩ := few_ok E hE (fun e he => (hin e he).big) ve hve H
  have hfew := up hfew
  have key : optW (ecall T2 f_hedgerowlaw07_StoreCopies [ve, .int .u8 t] H) fun r => ∃ H', r = (.bool true, H') := by
    rw [ecall_0 (T2_up _ _ T_hedgerowlaw07_StoreCopies) rfl (by simp [F_hedgerowlaw07_StoreCopies]), wp_fin1]
    simp only [F_hedgerowlaw07_StoreCopies, b_hedgerowlaw07_StoreCopies]
    have hue := elemsUnbox hve
    have hok := hve.ok
    cases fb with
    | false => simp [hfx, hue, hok, hfew]
    | true =>
      obtain ⟨hl60, hsh⟩ := hfb rfl
      have hfit : ∀ e ∈ E, EvFit e := fun e he => (hin e he).fit (hsh e he)
      obtain ⟨vr, H1, hca, hG⟩ := ref_Causal E (by omega) hfit ve hve H hbt
      have hca := up hca
      have hrow := row_of hl60 hfit
      have hcl := (causal_out E).2
      generalize (causal E).1 = R at hrow hG
      generalize (causal E).2 = kv at hcl hca
      have hrok := hG.ok
      have hre := hG.app.elems
      have hrl := hre.len
      have hru := elemsUnbox hre
      simp only [List.length_map] at hrl
      have hbo1 : H1.bo ≤ H1.objs.length := by rw [hG.step.objs, hG.step.bo]; exact hbo
      have hone : ∀ z : List GV, z.length = 16 → setPart z 0 (kv.map intG) = some (kv.map intG) := fun z hz => by
        simp only [setPart, hz, List.length_map, hcl]; simp [hcl, hz]
      have ho2 : kv.all (GV.one ∘ intG) = true := by rw [List.all_eq_true]; intros; rfl
      have t3 : List.take 16 kv = kv := List.take_of_length_le (by omega)
      have n1 := new_ok H1
      have s1 := Sto.new H1 hbo1
      have m1 := new_more H1
      generalize newH H1 = H2 at n1 s1 m1
      have hbo2 : H2.bo ≤ H2.objs.length := by rw [m1.bo]; exact Nat.le_trans hbo1 m1.len
      have n2 := new_ok H2
      have s2 := Sto.new H2 hbo2
      have m2 := new_more H2
      generalize newH H2 = H3 at n2 s2 m2
      have hbo3 : H3.bo ≤ H3.objs.length := by rw [m2.bo]; exact Nat.le_trans hbo2 m2.len
      have hlt : H1.objs.length + 1 < H2.objs.length := by
        obtain ⟨⟨es, ha, _⟩, _⟩ := s1
        exact (List.getElem?_eq_some_iff.1 ha.os).1
      have s1' := s1.keep (m' := H2.objs.length) (More.step m2) (by omega) (by omega)
      simp [hfx, hue, hok, hfew, hca, hrok, hrl, hru, hcl, hone, ho2, t3, n1, n2]
      rw [wp_seqK, wp_blockK]
      refine copies_do hrow vr hre (H1.objs.length + 1) H1.objs.length _ _ H3 s1' hbo3 _ (by simp [hru]) (by simp) (by simp) (by simp) ?_
      intro l4 g4 H4 sA stA hf4
      have hgood := hrow.good
      have hrle := hrow.le
      have hbo4 := stA.bole hbo3
      have k7 := hf4.get 7 rfl (v := .ptr (H1.objs.length + 1) 0) (by simp) rfl
      have k8 := hf4.get 8 rfl (v := .ptr (H2.objs.length + 1) 0) (by simp) rfl
      have k1 := hf4.get 1 rfl (v := .int .u8 t) (by simp) rfl
      have hsz := hgood.size
      obtain ⟨v1, hall, hv1⟩ := all_ok sA (by omega)
      have hitem := hgood.item (by omega) sA.ap sA.ne_nil
      have hsl := sortS_len (doAll R)
      have s2' := s2.keep (m' := H1.objs.length) stA (by omega) (by omega)
      have h1e := hv1.len
      have h1u := elemsUnbox hv1
      have h1ok := hv1.ok
      simp only [List.length_map] at h1e
      simp [k7, hall, h1ok, h1u, h1e]
      rw [wp_seqK, wp_blockK]
      refine copies_put (sortS (doAll R)) (by omega) hitem v1 hv1 t ht (H2.objs.length + 1) H2.objs.length _ _ H4 s2' hbo4 _ (by simp [h1u]) (by simp) (by simp) (by simp [k8]) (by simp [k1]) ?_
      intro l5 g5 H5 sB stB hf5
      have hbo5 := stB.bole hbo4
      have j7 := hf5.get 7 rfl (v := .ptr (H1.objs.length + 1) 0) (by simp [k7]) rfl
      have j8 := hf5.get 8 rfl (v := .ptr (H2.objs.length + 1) 0) (by simp [k8]) rfl
      have j11 := hf5.get 11 rfl (v := v1) (by simp [h1u]) (by simp [hv1.boxy])
      have hperm : (doAll R).Perm (putQ (sortS (doAll R)) t (sortS (doAll R)).length) := same_perm sA.ap sB.ap sA.ne_nil sB.ne_nil fun x => (putQ_same sA.ap sA.ne_nil (sortS_perm _) t x).symm
      have hso := sort_same sA.ap sB.ap hperm
      have hcn := cnt_perm hperm
      have hql := putQ_len (sortS (doAll R)) t (sortS (doAll R)).length
      have sA5 := sA.keep (m' := H2.objs.length) stB (by omega) (by omega)
      generalize putQ (sortS (doAll R)) t (sortS (doAll R)).length = SB at sB hso hcn hql
      obtain ⟨v2, hall2, hv2⟩ := all_ok sB (by omega)
      rw [← hso] at hv2
      have hcl2 : cntS (doAll R) ≤ 4611686018427387904 := by
        have := cnt_le (S := doAll R) (n := 60) fun p hp => by
          have e := getS_mem sA.ap hp
          have := hgood.len p.1
          rw [e] at this; omega
        omega
      have la := len_ok sA5 hcl2
      have lb := len_ok sB (by rw [← hcn]; exact hcl2)
      rw [← hcn] at lb
      have h2e := hv2.len
      have h2u := elemsUnbox hv2
      have h2ok := hv2.ok
      simp only [List.length_map] at h2e
      simp [j7, j8, j11, hall2, h1ok, h1u, h1e, h2e, h2u, h2ok, la, lb]
      rw [wp_seqK, wp_blockK]
      refine copies_same (sortS (doAll R)) (by omega) (fun p hp => (hitem p hp).le) v2 v1 hv2 hv1 _ _ H5 _ (by simp [h2u]) (by simp [j11, h1u]) (by simp) (by simp) ?_
      intro l6 g6
      simp
  obtain ⟨r, h, H', rfl⟩ := key
  exact ⟨H', h⟩
end Go.Proofs.YthmplnbogdfajaaGreatDoor
