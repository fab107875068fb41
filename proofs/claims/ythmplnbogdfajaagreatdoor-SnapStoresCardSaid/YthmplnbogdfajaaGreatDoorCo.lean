/- Own work: the shadow machine and what it shows, part Co. -/
import Derived.Test.YthmplnbogdfajaaGreatDoorSt
set_option linter.all false
namespace Go.Proofs.YthmplnbogdfajaaGreatDoor
open Go.Sh
set_option maxHeartbeats 4000000
set_option maxRecDepth 100000
theorem lib15 {T : Nat → Option IFun} {f : Nat} {fn : List GV → GH → Option (GV × GH)} (hF : T f = some ⟨8, [], .trap, 0, 15, fn⟩) {args : List GV} {H : GH} {r : GV × GH} (hn : args.length ≤ 8) (h : fn args H = some r) : ecall T f args H = some (r.1, H) := by
  rw [ecall_lib hF (by show 10 ≤ 15; decide) hn]
  simp only [libH]
  rw [if_pos (by decide)]
  simp [libP, h]
def sortS (S : List Stp) : List Stp := isort (ltC cfS) S
theorem mapO_len {α β : Type} {f : α → Option β} : ∀ {l : List α} {r : List β}, mapO f l = some r → l.length = r.length
  | [], r, h => by simp only [mapO, Option.some.injEq] at h; subst h; rfl
  | x :: l, r, h => by
    simp only [mapO] at h
    split at h
    · rename_i a b ha hb
      injection h with h; subst h
      rw [List.length_cons, List.length_cons, mapO_len hb]
    · cases h
theorem sortS_perm (S : List Stp) : (sortS S).Perm S := isort_perm _
theorem sortS_len (S : List Stp) : (sortS S).length = S.length := (sortS_perm S).length_eq
theorem all_ok {H : GH} {s m : Nat} {S : List Stp} (h : Sto H s m S) (hl : S.length ≤ 100000) : ∃ v, ecall T2 f_x64 [.ptr s 0] H = some (v, H) ∧ Elems 6 v ((sortS S).map itG) := by
  obtain ⟨⟨es, ha, hd⟩, hp⟩ := h
  have hf : allFn [.ptr s 0] H = some (if S.isEmpty then .nilsl else .sl 6 ((sortS S).map itG) .imm, H) := by
    simp only [allFn, ha.os, ha.om, hd, mapO_len hd]
    rw [if_pos ⟨trivial, hl⟩]
    simp only [Option.bind_some, apart_of.2 hp, if_true]
    rfl
  refine ⟨_, lib15 T2_All (by simp) hf, ?_⟩
  show Elems 6 (if S.isEmpty then GV.nilsl else _) _
  cases S with
  | nil => exact .nil
  | cons p S => exact .sl _ _
theorem getS_mem {S : List Stp} (hp : Apart S) {p : Stp} (h : p ∈ S) : getS S p.1 = p.2 := by
  unfold getS
  induction S with
  | nil => cases h
  | cons q S ih =>
    rw [List.find?_cons]
    unfold Apart at hp
    rw [List.map_cons, List.nodup_cons] at hp
    rcases List.mem_cons.1 h with rfl | h
    · simp
    · have : ¬ q.1 = p.1 := fun e => hp.1 (by rw [e]; exact List.mem_map_of_mem h)
      simp only [this, decide_false]
      exact ih hp.2 h
theorem mem_getS {S : List Stp} {x : El} (h : getS S x ≠ []) : (x, getS S x) ∈ S := by
  unfold getS at h ⊢
  cases hf : S.find? (fun p => decide (p.1 = x)) with
  | none => rw [hf] at h; exact absurd rfl h
  | some p =>
    have h1 := List.mem_of_find?_eq_some hf
    have h2 : p.1 = x := by simpa using List.find?_some hf
    simp only [Option.map_some, Option.getD_some]
    rw [← h2]; exact h1
theorem same_perm {S S' : List Stp} (hp : Apart S) (hp' : Apart S') (hn : ∀ p ∈ S, p.2 ≠ []) (hn' : ∀ p ∈ S', p.2 ≠ []) (h : ∀ x, getS S x = getS S' x) : S.Perm S' := by
  have nd : ∀ {S : List Stp}, Apart S → S.Nodup := fun {S} h => (List.pairwise_map.1 h).imp fun h e => h (by rw [e])
  rw [List.perm_iff_count]
  intro p
  have key : p ∈ S ↔ p ∈ S' := by
    constructor
    · intro hm
      have e := getS_mem hp hm
      have : getS S' p.1 ≠ [] := by rw [← h, e]; exact hn p hm
      have := mem_getS this
      rw [← h, e] at this; exact this
    · intro hm
      have e := getS_mem hp' hm
      have : getS S p.1 ≠ [] := by rw [h, e]; exact hn' p hm
      have := mem_getS this
      rw [h, e] at this; exact this
  by_cases hm : p ∈ S
  · rw [(nd hp).count, (nd hp').count, if_pos hm, if_pos (key.1 hm)]
  · rw [(nd hp).count, (nd hp').count, if_neg hm, if_neg (fun h => hm (key.2 h))]
theorem sort_same {S S' : List Stp} (hp : Apart S) (hp' : Apart S') (h : S.Perm S') : sortS S = sortS S' :=
  isort_perm_eq h (apart_of.2 hp')
end Go.Proofs.YthmplnbogdfajaaGreatDoor
namespace Go.Proofs.YthmplnbogdfajaaGreatDoor
open Go.Sh
set_option maxHeartbeats 4000000
set_option maxRecDepth 100000
theorem causl_app : ∀ {v : List Int} {a b : List Evt}, Causl v (a ++ b) ↔ Causl v a ∧ Causl (setAll v a) b
  | v, [], b => by simp [Causl, setAll]
  | v, e :: a, b => by
    rw [List.cons_append]
    simp only [Causl, setAll, List.foldl_cons, causl_app, and_assoc]
structure Row (R : List Evt) : Prop where
  fit : ∀ e ∈ R, EvFit e
  causl : Causl zero16 R
  le : R.length ≤ 60
theorem Row.at_ {R : List Evt} (h : Row R) {i : Nat} {e : Evt} (hi : R[i]? = some e) : Good (setAll zero16 (R.take i)) i (doAll (R.take i)) ∧ fitsB (setAll zero16 (R.take i)) e = true ∧ doAll (R.take (i + 1)) = doF (doAll (R.take i)) e := by
  have hlt := (List.getElem?_eq_some_iff.1 hi).1
  have ht : R.take (i + 1) = R.take i ++ [e] := by rw [List.take_add_one, hi]; rfl
  have hc : Causl zero16 (R.take (i + 1)) := by
    have := h.causl
    rw [← List.take_append_drop (i + 1) R] at this
    exact (causl_app.1 this).1
  rw [ht] at hc
  have hc := causl_snoc.1 hc
  refine ⟨?_, hc.2, by unfold doAll; rw [ht, List.foldl_append]; rfl⟩
  have := good_all (R.take i) Good.nil rfl (fun e he => h.fit e (List.mem_of_mem_take he)) hc.1
  rw [Nat.zero_add, List.length_take, Nat.min_eq_left (by omega)] at this
  exact this
theorem Row.good {R : List Evt} (h : Row R) : Good (setAll zero16 R) R.length (doAll R) := by
  have := good_all R Good.nil rfl h.fit h.causl
  rwa [Nat.zero_add] at this
theorem Row.step {R : List Evt} (h : Row R) {i : Nat} {e : Evt} (hi : R[i]? = some e) {H : GH} {s m : Nat} (hS : Sto H s m (doAll (R.take i))) (hbo : H.bo ≤ H.objs.length) :
    ∃ H1, ecall T2 f_x66 [.ptr s 0, .agg (evC e)] H = some (.int .i64 0, H1) ∧ Sto H1 s m (doAll (R.take (i + 1))) ∧ Stepm m H H1 := by
  obtain ⟨hg, hf, he⟩ := h.at_ hi
  have hb := (fits_iff hf).1
  have hlt := (List.getElem?_eq_some_iff.1 hi).1
  have := h.le
  have hl := hg.len e.x
  rw [he]
  exact do_step hS e (h.fit e (List.mem_of_getElem? hi)) (elem_range (evB_elem hb)) (hg.dots _) (by omega) hb hbo
theorem dec_ne : ∀ {es : List (GV × GV)} {S : List Stp}, mapO decP es = some S → ∀ p ∈ S, p.2 ≠ []
  | [], S, h => by simp only [mapO, Option.some.injEq] at h; subst h; intro p hp; cases hp
  | q :: es, S, h => by
    simp only [mapO] at h
    split at h
    · rename_i a b ha hb
      injection h with h; subst h
      intro p hp
      rcases List.mem_cons.1 hp with rfl | hp
      · exact (decP_eq ha).2.2.ne
      · exact dec_ne hb p hp
    · cases h
theorem Sto.ne_nil {H : GH} {s m : Nat} {S : List Stp} (h : Sto H s m S) : ∀ p ∈ S, p.2 ≠ [] := by
  obtain ⟨⟨es, _, hd⟩, _⟩ := h
  exact dec_ne hd
theorem Good.okPut {v : List Int} {n : Nat} {S : List Stp} (h : Good v n S) {x : El} (hx : getS S x ≠ []) : okPutB x (getS S x) = true := by
  unfold okPutB okAt
  rw [Bool.and_eq_true, List.all_eq_true]
  refine ⟨(h.el x hx).1, fun i hi => ?_⟩
  rw [List.mem_range] at hi
  have e1 : (getS S x).getD i default = (getS S x)[i] := by rw [List.getD_eq_getElem?_getD, List.getElem?_eq_getElem hi]; rfl
  rw [e1, Bool.and_eq_true, Bool.or_eq_true]
  refine ⟨(h.ent x _ (List.getElem_mem hi)).1, ?_⟩
  by_cases h0 : i = 0
  · exact .inl (decide_eq_true h0)
  · right
    have e2 : (getS S x).getD (i - 1) default = (getS S x)[i - 1] := by rw [List.getD_eq_getElem?_getD, List.getElem?_eq_getElem (by omega)]; rfl
    rw [e2]
    exact decide_eq_true ((List.pairwise_iff_getElem.1 (h.dots x)) (i - 1) i (by omega) hi (by omega))
theorem put_step {H : GH} {s m : Nat} {S : List Stp} (h : Sto H s m S) (x : El) (hx : ElFit x) (hr : ElRange x) (L : List Ent) (hL : L.length ≤ 100000) (hfit : ∀ e ∈ L, EntFit e) (hok : okPutB x L = true) (v : GV) (hv : Elems 5 v (L.map entG)) (hbo : H.bo ≤ H.objs.length) :
    ∃ H1, ecall T2 f_x69 [.ptr s 0, .agg (itemC x v)] H = some (.int .i64 0, H1) ∧ Sto H1 s m (putS S x L) ∧ Stepm m H H1 := by
  obtain ⟨⟨es, ha, hd⟩, hp⟩ := h
  obtain ⟨H', h1, h2⟩ := store_Put ha x hx hr L hL hfit v hv (List.getElem?_eq_some_iff.1 ha.om).1 hbo
  rw [hok] at h1
  rcases h2 with ⟨h2, _⟩ | ⟨_, v', hv', rfl⟩
  · rw [hok] at h2; cases h2
  have := Sto.lay ha hd hp (killH_more L H) hx hr (by omega) hv'
  exact ⟨_, up h1, this.1, this.2⟩
structure ItOk (p : Stp) : Prop where
  fit : ElFit p.1
  range : ElRange p.1
  le : p.2.length ≤ 100000
  ent : ∀ e ∈ p.2, EntFit e
  ok : okPutB p.1 p.2 = true
theorem ba_self (a : ByteArray) : (a == a) = true := by
  rcases a with ⟨a⟩
  show (a == a) = true
  exact beq_self_eq_true _
theorem ent_refl (e : Ent) : leavesEq [.int .i64, .int .i64, .int .i64, .int .i64, .str] (entC e) (entC e) = some true := by
  simp [leavesEq, leafEq, entC, ba_self]
theorem el_refl (x : El) : leavesEq [.int .i64, .str, .str, .str, .str] (elC x) (elC x) = some true := by
  simp [leavesEq, leafEq, elC, ba_self]
structure EvIn (e : Evt) : Prop where
  big : EvBig e
  n1 : -9223372036854775808 ≤ e.vn
  n2 : e.vn ≤ 9223372036854775807
theorem EvIn.fit {e : Evt} (h : EvIn e) (hs : elSum e.x + e.vt.length ≤ 300) : EvFit e := by
  unfold elSum at hs
  exact ⟨h.big.past, ⟨by omega, by omega, by omega, by omega⟩, by omega, h.n1, h.n2⟩
theorem row_of {E : List Evt} (hE : E.length ≤ 60) (hf : ∀ e ∈ E, EvFit e) : Row (causal E).1 := by
  obtain ⟨h1, h2, h3⟩ := causal_causl E
  exact ⟨fun e he => hf e (h3 e he), h1, Nat.le_trans (causal_out E).1 hE⟩
def newH (H : GH) : GH := { H with objs := H.objs ++ [.map true kLs [], .cells 75 [.map H.objs.length]] }
theorem new_ok (H : GH) : ecall T2 f_x62 [] H = some (.ptr (H.objs.length + 1) 0, newH H) := up (store_New H)
theorem Sto.new (H : GH) (hbo : H.bo ≤ H.objs.length) : Sto (newH H) (H.objs.length + 1) H.objs.length [] :=
  ⟨⟨[], ⟨by simp [newH], by simp [newH], hbo⟩, rfl⟩, List.nodup_nil⟩
theorem new_more (H : GH) : More H (newH H) := ⟨_, rfl⟩
theorem Good.item {v : List Int} {n : Nat} {S : List Stp} (h : Good v n S) (hn : n ≤ 1000) (hp : Apart S) (hne : ∀ p ∈ S, p.2 ≠ []) : ∀ p ∈ sortS S, ItOk p := fun p hm => by
  have hm := (sortS_perm S).mem_iff.1 hm
  have e := getS_mem hp hm
  have h0 : getS S p.1 ≠ [] := by rw [e]; exact hne p hm
  have hl := h.len p.1
  have ho := h.okPut h0
  rw [e] at hl ho
  exact ⟨(h.el _ h0).2, elem_range (h.el _ h0).1, by omega, fun y hy => (h.ent p.1 y (by rw [e]; exact hy)).2, ho⟩
end Go.Proofs.YthmplnbogdfajaaGreatDoor
