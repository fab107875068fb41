/- Own work: the shadow machine and what it shows, part Pl. -/
import Derived.Test.YthmplnbogdfajaaGreatDoorRd
set_option linter.all false
namespace Go.Proofs.YthmplnbogdfajaaGreatDoor
open Go.Sh
set_option maxRecDepth 100000
def nOk (n : Int) : Prop := 0 ≤ n ∧ n ≤ 4611686018427387903
def gOk (n : Int) : Prop := -1152921504606846976 ≤ n ∧ n ≤ 1152921504606846976
theorem putB_numB {n : Int} (h : nOk n) : putB n = numB n := by
  unfold putB; rw [if_neg (by unfold nOk at h; omega)]
theorem fwd_N {n most : Int} (h : nOk n) (hm : n ≤ most) (w : List Int) : rN most (putB n ++ w, false) = (n, (w, false)) := by
  rw [putB_numB h]
  have ht := take_numB h.1 h.2 w
  have hp := numB_pos n
  unfold rN rdNum
  simp only [ht]
  rw [if_neg (by simp), if_neg (by omega)]
  simp
theorem fwd_G {n : Int} (h : gOk n) (w : List Int) : rG (sigB n ++ w, false) = (n, (w, false)) := by
  unfold gOk at h
  unfold sigB
  rw [if_neg (by omega)]
  split
  · have := fwd_N (n := -2 * n - 1) (most := 2305843009213693952) (by constructor <;> omega) (by omega) w
    unfold rN at this
    unfold rG
    simp only at this ⊢
    rw [this]
    have : sgn (-2 * n - 1) = n := by unfold sgn; rw [if_pos (by omega)]; omega
    rw [this]
  · have := fwd_N (n := 2 * n) (most := 2305843009213693952) (by constructor <;> omega) (by omega) w
    unfold rN at this
    unfold rG
    simp only at this ⊢
    rw [this]
    have : sgn (2 * n) = n := by unfold sgn; rw [if_neg (by omega)]; omega
    rw [this]
theorem byte_tB (t : List UInt8) : (tB t).map byte = t := by
  induction t with
  | nil => rfl
  | cons b t ih =>
    simp only [tB, List.map_cons, List.map_map] at ih ⊢
    rw [ih]
    congr 1
    simp [byte]
theorem fwd_T {t : List UInt8} (h : t.length ≤ 1048576) (w : List Int) : rT (textB t ++ w, false) = (t, (w, false)) := by
  have hn := fwd_N (n := t.length) (most := 1048576) (by constructor <;> omega) (by omega) (tB t ++ w)
  unfold rN at hn
  have hl := tB_len t
  unfold rT rdText textB
  simp only [List.append_assoc] at hn ⊢
  rw [hn]
  simp only
  rw [if_neg (by simp [hl]; omega)]
  have e1 : (t.length : Int).toNat = (tB t).length := by rw [hl]; simp
  rw [e1, List.take_left, List.drop_left]
  simp [txt, byte_tB]
structure EntR (e : Ent) : Prop where
  r : nOk e.r
  c : nOk e.c
  k : nOk e.k
  n : gOk e.n
  t : e.t.length ≤ 1048576
theorem fwd_M {n : Int} (h : nOk n) (w : List Int) : rM (putB n ++ w, false) = (n, (w, false)) := fwd_N h h.2 w
theorem fwd_E {e : Ent} (h : EntR e) (w : List Int) : rdE (entBy e ++ w, false) = (e, (w, false)) := by
  unfold rdE entBy vlB
  simp only [List.append_assoc]
  simp only [fwd_M h.r, fwd_M h.c, fwd_M h.k, fwd_G h.n, fwd_T h.t]
theorem fwd_rowsP {α : Type} {f : RS → α × RS} {enc : α → List Int} : ∀ (l : List α) (w : List Int) (acc : List α), (∀ x ∈ l, ∀ w, f (enc x ++ w, false) = (x, (w, false))) → rowsP f l.length (l.flatMap enc ++ w, false) acc = (acc ++ l, (w, false))
  | [], w, acc, _ => by simp [rowsP]
  | x :: l, w, acc, h => by
    have hx := h x (by simp) (l.flatMap enc ++ w)
    simp only [List.length_cons, rowsP, List.flatMap_cons, List.append_assoc, hx]
    rw [if_neg (by simp), fwd_rowsP l w _ fun y hy => h y (by simp [hy])]
    simp
theorem fwd_rows {α : Type} {f : RS → α × RS} {enc : α → List Int} (l : List α) (w : List Int) (h : ∀ x ∈ l, ∀ w, f (enc x ++ w, false) = (x, (w, false))) (hl : l.length ≤ 100000) : rdRows f (putB l.length ++ (l.flatMap enc ++ w), false) = (l, (w, false)) := by
  have hn := fwd_N (n := l.length) (most := 100000) (by constructor <;> omega) (by omega) (l.flatMap enc ++ w)
  unfold rdRows
  rw [hn]
  simp only [Int.toNat_natCast]
  rw [fwd_rowsP l w [] h]
  rfl
structure ElR (x : El) : Prop where
  k : nOk x.k
  a : x.a.length ≤ 1048576
  b : x.b.length ≤ 1048576
  c : x.c.length ≤ 1048576
  d : x.d.length ≤ 1048576
structure ItmR (p : Itm) : Prop where
  x : ElR p.x
  L : p.L.length ≤ 100000
  e : ∀ e ∈ p.L, EntR e
theorem fwd_I {p : Itm} (h : ItmR p) (w : List Int) : rdI (itemBy p ++ w, false) = (p, (w, false)) := by
  have hr := fwd_rows (f := rdE) (enc := entBy) p.L w (fun e he w => fwd_E (h.e e he) w) h.L
  unfold rdI itemBy elBy txB
  simp only [List.flatMap_cons, List.flatMap_nil, List.append_nil, List.append_assoc]
  simp only [fwd_M h.x.k, fwd_T h.x.a, fwd_T h.x.b, fwd_T h.x.c, fwd_T h.x.d, hr]
theorem fwd_Ns : ∀ (l m : List Int) (w : List Int), (∀ n ∈ m, nOk n) → rNs m.length (m.flatMap putB ++ w, false) = (m, (w, false)) := by
  intro _ m w h
  suffices hh : ∀ (k : Nat), k ≤ m.length → rNs k (m.flatMap putB ++ w, false) = (m.take k, ((m.drop k).flatMap putB ++ w, false)) by
    have := hh m.length (Nat.le_refl _)
    simpa using this
  intro k
  induction k with
  | zero => intro _; simp [rNs]
  | succ k ih =>
    intro hk
    have ih := ih (by omega)
    have hd : m.drop k = m[k] :: m.drop (k + 1) := List.drop_eq_getElem_cons (by omega)
    simp only [rNs, ih]
    rw [hd]
    simp only [List.flatMap_cons, List.append_assoc]
    rw [fwd_M (h _ (List.getElem_mem _)), List.take_add_one, List.getElem?_eq_getElem (by omega)]
    rfl
theorem fwd_Ts (m : List (List UInt8)) (w : List Int) (h : ∀ t ∈ m, t.length ≤ 1048576) : rTs m.length (txB m ++ w, false) = (m, (w, false)) := by
  unfold txB
  suffices hh : ∀ (k : Nat), k ≤ m.length → rTs k (m.flatMap textB ++ w, false) = (m.take k, ((m.drop k).flatMap textB ++ w, false)) by
    have := hh m.length (Nat.le_refl _)
    simpa using this
  intro k
  induction k with
  | zero => intro _; simp [rTs]
  | succ k ih =>
    intro hk
    have ih := ih (by omega)
    have hd : m.drop k = m[k] :: m.drop (k + 1) := List.drop_eq_getElem_cons (by omega)
    simp only [rTs, ih]
    rw [hd]
    simp only [List.flatMap_cons, List.append_assoc]
    rw [fwd_T (h _ (List.getElem_mem _)), List.take_add_one, List.getElem?_eq_getElem (by omega)]
    rfl
structure EvtR (e : Evt) : Prop where
  r : nOk e.r
  c : nOk e.c
  pl : e.past.length = 16
  p : ∀ n ∈ e.past, nOk n
  op : nOk e.op
  x : ElR e.x
  k : nOk e.vk
  n : gOk e.vn
  t : e.vt.length ≤ 1048576
theorem fwd_V {e : Evt} (h : EvtR e) (w : List Int) : rdV (evBy e ++ w, false) = (e, (w, false)) := by
  have h1 := fwd_Ns [] [e.r, e.c]
  have h2 := fwd_Ns [] e.past
  have h3 := fwd_Ns [] [e.op, e.x.k]
  have h4 := fwd_Ts [e.x.a, e.x.b, e.x.c, e.x.d]
  simp only [List.length_cons, List.length_nil, Nat.zero_add, Nat.reduceAdd, h.pl] at h1 h2 h3 h4
  have g1 := fun w => h1 w (by simp only [List.mem_cons, List.mem_nil_iff, or_false]; rintro n (rfl | rfl) <;> first | exact h.r | exact h.c)
  have g2 := fun w => h2 w h.p
  have g3 := fun w => h3 w (by simp only [List.mem_cons, List.mem_nil_iff, or_false]; rintro n (rfl | rfl) <;> first | exact h.op | exact h.x.k)
  have g4 := fun w => h4 w (by simp only [List.mem_cons, List.mem_nil_iff, or_false]; rintro n (rfl | rfl | rfl | rfl) <;> first | exact h.x.a | exact h.x.b | exact h.x.c | exact h.x.d)
  have e1 : evBy e ++ w = [e.r, e.c].flatMap putB ++ (e.past.flatMap putB ++ ([e.op, e.x.k].flatMap putB ++ (txB [e.x.a, e.x.b, e.x.c, e.x.d] ++ (putB e.vk ++ (sigB e.vn ++ (textB e.vt ++ w)))))) := by
    simp [evBy, elBy, vlB]
  rw [e1]
  unfold rdV
  simp only [g1, g2, g3, g4, fwd_M h.k, fwd_G h.n, fwd_T h.t]
  rfl
theorem fwd_R {e : Evt} (h : EvtR e) (hb : evB e = true) (w : List Int) : rdR (evBy e ++ w, false) = ((e, true), (w, false)) := by
  unfold rdR
  simp only [fwd_V h]
  rw [if_neg (by simp [hb])]
theorem fwd_rowsO : ∀ (l : List Evt) (w : List Int) (acc : List Evt), (∀ e ∈ l, EvtR e ∧ evB e = true) → rowsO l.length (l.flatMap evBy ++ w, false) false acc = (acc ++ l, (w, false), false)
  | [], w, acc, _ => by simp [rowsO]
  | x :: l, w, acc, h => by
    have hx := fwd_R (h x (by simp)).1 (h x (by simp)).2 (l.flatMap evBy ++ w)
    simp only [List.length_cons, rowsO, List.flatMap_cons, List.append_assoc, hx, oddB]
    rw [if_neg (by simp)]
    simp only [Bool.not_true, Bool.false_and, Bool.or_false]
    rw [fwd_rowsO l w _ fun y hy => h y (by simp [hy])]
    simp
theorem fwd_RowsO (l : List Evt) (w : List Int) (h : ∀ e ∈ l, EvtR e ∧ evB e = true) (hl : l.length ≤ 100000) : rdRowsO (putB l.length ++ (l.flatMap evBy ++ w), false) = (l, (w, false), false) := by
  have hn := fwd_N (n := l.length) (most := 100000) (by constructor <;> omega) (by omega) (l.flatMap evBy ++ w)
  unfold rdRowsO
  rw [hn]
  simp only [Int.toNat_natCast]
  rw [fwd_rowsO l w [] h]
  rfl
end Go.Proofs.YthmplnbogdfajaaGreatDoor
namespace Go.Proofs.YthmplnbogdfajaaGreatDoor
open Go.Sh
set_option maxRecDepth 100000
end Go.Proofs.YthmplnbogdfajaaGreatDoor
namespace Go.Proofs.YthmplnbogdfajaaGreatDoor
open Go.Sh
set_option maxRecDepth 100000
theorem rightV_rng {k n : Int} {t : List UInt8} (h : rightV k n t = true) : nOk k ∧ gOk n := by
  unfold rightV at h
  unfold nOk gOk
  split at h
  · simp only [decide_eq_true_eq] at h; omega
  · split at h
    · simp only [decide_eq_true_eq] at h; omega
    · split at h
      · simp only [decide_eq_true_eq] at h; omega
      · split at h
        · simp only [Bool.and_eq_true, decide_eq_true_eq] at h; omega
        · split at h
          · simp only [Bool.and_eq_true, decide_eq_true_eq] at h; omega
          · split at h
            · simp only [Bool.and_eq_true, decide_eq_true_eq] at h; omega
            · cases h
theorem vnone_rng {k n : Int} {t : List UInt8} (h : vnone k n t = true) : nOk k ∧ gOk n := by
  simp only [vnone, decide_eq_true_eq] at h
  unfold nOk gOk; omega
theorem mayB_rng {op : Int} {x : El} {vk vn : Int} {vt : List UInt8} (h : mayB op x vk vn vt = true) : nOk op ∧ nOk x.k ∧ nOk vk ∧ gOk vn := by
  unfold mayB at h
  rw [Bool.and_eq_true] at h
  obtain ⟨h1, h2⟩ := h
  have hk : nOk x.k := by rcases elem_kind h1 with h | h | h | h | h <;> rw [h] <;> constructor <;> omega
  split at h2
  · rename_i ho
    rw [Bool.and_eq_true] at h2
    obtain ⟨a, b⟩ := vnone_rng h2.1
    exact ⟨by unfold nOk; omega, hk, a, b⟩
  · split at h2
    · rename_i ho
      rw [Bool.and_eq_true, Bool.and_eq_true] at h2
      obtain ⟨a, b⟩ := rightV_rng h2.2.2
      exact ⟨by unfold nOk; omega, hk, a, b⟩
    · split at h2
      · rename_i ho
        rw [Bool.and_eq_true] at h2
        obtain ⟨a, b⟩ := vnone_rng h2.1
        exact ⟨by unfold nOk; omega, hk, a, b⟩
      · cases h2
theorem dotB_rng {r c : Int} (h : dotB r c = true) : nOk r ∧ nOk c := by
  simp only [dotB, decide_eq_true_eq] at h
  unfold nOk; omega
theorem vecB_rng {v : List Int} (h : vecB v = true) : ∀ n ∈ v, nOk n := fun n hn => by
  have := List.all_eq_true.1 h n hn
  simp only [decide_eq_true_eq] at this
  unfold nOk; omega
theorem getD_mem {α : Type} {l : List α} {x d : α} (h : x ∈ l) : ∃ i, i < l.length ∧ l.getD i d = x := by
  obtain ⟨i, hi, rfl⟩ := List.getElem_of_mem h
  exact ⟨i, hi, by simp [hi]⟩
theorem ent_mem {x : El} {L : List Ent} (h : okPutB x L = true) : elemV x.k x.a x.b x.c x.d = true ∧ ∀ e ∈ L, entryB x e = true := by
  unfold okPutB at h
  rw [Bool.and_eq_true] at h
  refine ⟨h.1, fun e he => ?_⟩
  obtain ⟨i, hi, h2⟩ := getD_mem (d := default) he
  have := List.all_eq_true.1 h.2 i (List.mem_range.2 hi)
  unfold okAt at this
  rw [Bool.and_eq_true, h2] at this
  exact this.1
theorem itm_mem {kv : List Int} {I : List Itm} (h : (List.range I.length).all (itAt kv I) = true) : ∀ p ∈ I, itemB kv p.x p.L = true := fun p hp => by
  obtain ⟨i, hi, h2⟩ := getD_mem (d := default) hp
  have := List.all_eq_true.1 h i (List.mem_range.2 hi)
  unfold itAt at this
  rw [Bool.and_eq_true, h2] at this
  exact this.1
theorem item_R {kv : List Int} {p : Itm} (h : itemB kv p.x p.L = true) (hx : ElFit p.x) (hL : p.L.length ≤ 100000) (he : ∀ e ∈ p.L, e.t.length ≤ 1048576) : ItmR p := by
  unfold itemB at h
  rw [Bool.and_eq_true, Bool.and_eq_true] at h
  obtain ⟨_, h1, _⟩ := h
  obtain ⟨h2, h3⟩ := ent_mem h1
  have hk : nOk p.x.k := by rcases elem_kind h2 with h | h | h | h | h <;> rw [h] <;> constructor <;> omega
  refine ⟨⟨hk, hx.a, hx.b, hx.c, hx.d⟩, hL, fun e hm => ?_⟩
  have := h3 e hm
  unfold entryB at this
  rw [Bool.and_eq_true] at this
  obtain ⟨r1, r2⟩ := dotB_rng this.1
  obtain ⟨_, _, r3, r4⟩ := mayB_rng this.2
  exact ⟨r1, r2, r3, r4, he e hm⟩
theorem event_R {e : Evt} (h : evB e = true) (hf : EvFit e) : EvtR e := by
  unfold evB at h
  rw [Bool.and_eq_true, Bool.and_eq_true] at h
  obtain ⟨⟨h1, h2⟩, h3⟩ := h
  unfold nextB at h1
  rw [Bool.and_eq_true] at h1
  obtain ⟨r1, r2⟩ := dotB_rng h1.1
  obtain ⟨o, k, r3, r4⟩ := mayB_rng h3
  exact ⟨r1, r2, hf.past, vecB_rng h2, o, ⟨k, hf.x.a, hf.x.b, hf.x.c, hf.x.d⟩, r3, r4, hf.t⟩
theorem right_parts {kv : List Int} {I : List Itm} {E : List Evt} (h : rightB kv I E = true) : vecB kv = true ∧ (List.range I.length).all (itAt kv I) = true ∧ ∀ e ∈ E, evB e = true ∧ knowsB kv e.r e.c = true := by
  unfold rightB at h
  rw [Bool.and_eq_true, Bool.and_eq_true] at h
  refine ⟨h.1, h.2.1, fun e he => ?_⟩
  have := List.all_eq_true.1 h.2.2 e he
  unfold evAt at this
  rwa [Bool.and_eq_true] at this
structure SnFit (kv : List Int) (I : List Itm) (E : List Evt) : Prop where
  k : kv.length = 16
  i : ∀ p ∈ I, ElFit p.x ∧ p.L.length ≤ 100000 ∧ ∀ e ∈ p.L, e.t.length ≤ 1048576
  il : I.length ≤ 100000
  e : ∀ e ∈ E, EvFit e
  el : E.length ≤ 100000
theorem parse_by {kv : List Int} {I : List Itm} {E : List Evt} (hf : SnFit kv I E) (h : rightB kv I E = true) (w : List Int) :
    (pK (snapBy kv I E ++ w)).1 = kv ∧ (pI (snapBy kv I E ++ w)).1 = I ∧ pV (snapBy kv I E ++ w) = (E, (w, false), false) := by
  obtain ⟨h1, h2, h3⟩ := right_parts h
  have hi := itm_mem h2
  have e1 : snapBy kv I E ++ w = kv.flatMap putB ++ (putB I.length ++ (I.flatMap itemBy ++ (putB E.length ++ (E.flatMap evBy ++ w)))) := by
    simp [snapBy]
  have k1 := fwd_Ns [] kv (putB I.length ++ (I.flatMap itemBy ++ (putB E.length ++ (E.flatMap evBy ++ w)))) (vecB_rng h1)
  rw [hf.k, ← e1] at k1
  have hK : pK (snapBy kv I E ++ w) = (kv, (putB I.length ++ (I.flatMap itemBy ++ (putB E.length ++ (E.flatMap evBy ++ w))), false)) := k1
  have hI : pI (snapBy kv I E ++ w) = (I, (putB E.length ++ (E.flatMap evBy ++ w), false)) := by
    unfold pI
    rw [hK]
    exact fwd_rows (f := rdI) (enc := itemBy) I _ (fun p hp w => fwd_I (item_R (hi p hp) (hf.i p hp).1 (hf.i p hp).2.1 (hf.i p hp).2.2) w) hf.il
  have hV : pV (snapBy kv I E ++ w) = (E, (w, false), false) := by
    unfold pV
    rw [hI]
    exact fwd_RowsO E w (fun e he => ⟨event_R (h3 e he).1 (hf.e e he), (h3 e he).1⟩) hf.el
  exact ⟨by rw [hK], by rw [hI], hV⟩
theorem parse_code {kv : List Int} {I : List Itm} {E : List Evt} (hf : SnFit kv I E) (h : rightB kv I E = true) : pCode (snapBy kv I E) = 0 ∧ (pK (snapBy kv I E)).1 = kv ∧ (pI (snapBy kv I E)).1 = I ∧ (pV (snapBy kv I E)).1 = E := by
  have := parse_by hf h []
  rw [List.append_nil] at this
  obtain ⟨a, b, c⟩ := this
  refine ⟨?_, a, b, by rw [c]⟩
  unfold pCode
  rw [a, b, c]
  simp [h]
end Go.Proofs.YthmplnbogdfajaaGreatDoor
