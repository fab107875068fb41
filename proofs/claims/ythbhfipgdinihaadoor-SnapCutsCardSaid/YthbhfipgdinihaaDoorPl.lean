/- Own work: the shadow machine and what it shows, part Pl. -/
import Derived.Test.YthbhfipgdinihaaDoorRd
set_option linter.all false

namespace Go.Proofs.YthbhfipgdinihaaDoor
open Go.Sh
set_option maxRecDepth 100000

/-! ## Reading what was written, as a law -/

def nOk (n : Int) : Prop := 0 ≤ n ∧ n ≤ 4611686018427387903
def gOk (n : Int) : Prop := -1152921504606846976 ≤ n ∧ n ≤ 1152921504606846976

theorem putB_numB {n : Int} (h : nOk n) : putB n = numB n := by
  unfold putB; rw [if_neg (by unfold nOk at h; omega)]

theorem fwd_N {n most : Int} (h : nOk n) (hm : n ≤ most) (w : List Int) : rN most (putB n ++ w, false) = (n, (w, false)) := by
  rw [putB_numB h]
  have ht := take_numB h.1 h.2 w
  have hp := numB_pos n
  unfold rN rdNum
  simp only [ht]
  rw [if_neg (by simp), if_neg (by omega)]
  simp

theorem fwd_G {n : Int} (h : gOk n) (w : List Int) : rG (sigB n ++ w, false) = (n, (w, false)) := by
  unfold gOk at h
  unfold sigB
  rw [if_neg (by omega)]
  split
  · have := fwd_N (n := -2 * n - 1) (most := 2305843009213693952) (by constructor <;> omega) (by omega) w
    unfold rN at this
    unfold rG
    simp only at this ⊢
    rw [this]
    have : sgn (-2 * n - 1) = n := by unfold sgn; rw [if_pos (by omega)]; omega
    rw [this]
  · have := fwd_N (n := 2 * n) (most := 2305843009213693952) (by constructor <;> omega) (by omega) w
    unfold rN at this
    unfold rG
    simp only at this ⊢
    rw [this]
    have : sgn (2 * n) = n := by unfold sgn; rw [if_neg (by omega)]; omega
    rw [this]

theorem byte_tB (t : List UInt8) : (tB t).map byte = t := by
  induction t with
  | nil => rfl
  | cons b t ih =>
    simp only [tB, List.map_cons, List.map_map] at ih ⊢
    rw [ih]
    congr 1
    simp [byte]

theorem fwd_T {t : List UInt8} (h : t.length ≤ 1048576) (w : List Int) : rT (textB t ++ w, false) = (t, (w, false)) := by
  have hn := fwd_N (n := t.length) (most := 1048576) (by constructor <;> omega) (by omega) (tB t ++ w)
  unfold rN at hn
  have hl := tB_len t
  unfold rT rdText textB
  simp only [List.append_assoc] at hn ⊢
  rw [hn]
  simp only
  rw [if_neg (by simp [hl]; omega)]
  have e1 : (t.length : Int).toNat = (tB t).length := by rw [hl]; simp
  rw [e1, List.take_left, List.drop_left]
  simp [txt, byte_tB]

structure EntR (e : Ent) : Prop where
  r : nOk e.r
  c : nOk e.c
  k : nOk e.k
  n : gOk e.n
  t : e.t.length ≤ 1048576

theorem fwd_M {n : Int} (h : nOk n) (w : List Int) : rM (putB n ++ w, false) = (n, (w, false)) := fwd_N h h.2 w

theorem fwd_E {e : Ent} (h : EntR e) (w : List Int) : rdE (entBy e ++ w, false) = (e, (w, false)) := by
  unfold rdE entBy vlB
  simp only [List.append_assoc]
  simp only [fwd_M h.r, fwd_M h.c, fwd_M h.k, fwd_G h.n, fwd_T h.t]

theorem fwd_rowsP {α : Type} {f : RS → α × RS} {enc : α → List Int} : ∀ (l : List α) (w : List Int) (acc : List α), (∀ x ∈ l, ∀ w, f (enc x ++ w, false) = (x, (w, false))) → rowsP f l.length (l.flatMap enc ++ w, false) acc = (acc ++ l, (w, false))
  | [], w, acc, _ => by simp [rowsP]
  | x :: l, w, acc, h => by
    have hx := h x (by simp) (l.flatMap enc ++ w)
    simp only [List.length_cons, rowsP, List.flatMap_cons, List.append_assoc, hx]
    rw [if_neg (by simp), fwd_rowsP l w _ fun y hy => h y (by simp [hy])]
    simp

theorem fwd_rows {α : Type} {f : RS → α × RS} {enc : α → List Int} (l : List α) (w : List Int) (h : ∀ x ∈ l, ∀ w, f (enc x ++ w, false) = (x, (w, false))) (hl : l.length ≤ 100000) : rdRows f (putB l.length ++ (l.flatMap enc ++ w), false) = (l, (w, false)) := by
  have hn := fwd_N (n := l.length) (most := 100000) (by constructor <;> omega) (by omega) (l.flatMap enc ++ w)
  unfold rdRows
  rw [hn]
  simp only [Int.toNat_natCast]
  rw [fwd_rowsP l w [] h]
  rfl

structure ElR (x : El) : Prop where
  k : nOk x.k
  a : x.a.length ≤ 1048576
  b : x.b.length ≤ 1048576
  c : x.c.length ≤ 1048576
  d : x.d.length ≤ 1048576

structure ItmR (p : Itm) : Prop where
  x : ElR p.x
  L : p.L.length ≤ 100000
  e : ∀ e ∈ p.L, EntR e

theorem fwd_I {p : Itm} (h : ItmR p) (w : List Int) : rdI (itemBy p ++ w, false) = (p, (w, false)) := by
  have hr := fwd_rows (f := rdE) (enc := entBy) p.L w (fun e he w => fwd_E (h.e e he) w) h.L
  unfold rdI itemBy elBy txB
  simp only [List.flatMap_cons, List.flatMap_nil, List.append_nil, List.append_assoc]
  simp only [fwd_M h.x.k, fwd_T h.x.a, fwd_T h.x.b, fwd_T h.x.c, fwd_T h.x.d, hr]

theorem fwd_Ns : ∀ (l m : List Int) (w : List Int), (∀ n ∈ m, nOk n) → rNs m.length (m.flatMap putB ++ w, false) = (m, (w, false)) := by
  intro _ m w h
  suffices hh : ∀ (k : Nat), k ≤ m.length → rNs k (m.flatMap putB ++ w, false) = (m.take k, ((m.drop k).flatMap putB ++ w, false)) by
    have := hh m.length (Nat.le_refl _)
    simpa using this
  intro k
  induction k with
  | zero => intro _; simp [rNs]
  | succ k ih =>
    intro hk
    have ih := ih (by omega)
    have hd : m.drop k = m[k] :: m.drop (k + 1) := List.drop_eq_getElem_cons (by omega)
    simp only [rNs, ih]
    rw [hd]
    simp only [List.flatMap_cons, List.append_assoc]
    rw [fwd_M (h _ (List.getElem_mem _)), List.take_add_one, List.getElem?_eq_getElem (by omega)]
    rfl

theorem fwd_Ts (m : List (List UInt8)) (w : List Int) (h : ∀ t ∈ m, t.length ≤ 1048576) : rTs m.length (txB m ++ w, false) = (m, (w, false)) := by
  unfold txB
  suffices hh : ∀ (k : Nat), k ≤ m.length → rTs k (m.flatMap textB ++ w, false) = (m.take k, ((m.drop k).flatMap textB ++ w, false)) by
    have := hh m.length (Nat.le_refl _)
    simpa using this
  intro k
  induction k with
  | zero => intro _; simp [rTs]
  | succ k ih =>
    intro hk
    have ih := ih (by omega)
    have hd : m.drop k = m[k] :: m.drop (k + 1) := List.drop_eq_getElem_cons (by omega)
    simp only [rTs, ih]
    rw [hd]
    simp only [List.flatMap_cons, List.append_assoc]
    rw [fwd_T (h _ (List.getElem_mem _)), List.take_add_one, List.getElem?_eq_getElem (by omega)]
    rfl

structure EvtR (e : Evt) : Prop where
  r : nOk e.r
  c : nOk e.c
  pl : e.past.length = 16
  p : ∀ n ∈ e.past, nOk n
  op : nOk e.op
  x : ElR e.x
  k : nOk e.vk
  n : gOk e.vn
  t : e.vt.length ≤ 1048576

theorem fwd_V {e : Evt} (h : EvtR e) (w : List Int) : rdV (evBy e ++ w, false) = (e, (w, false)) := by
  have h1 := fwd_Ns [] [e.r, e.c]
  have h2 := fwd_Ns [] e.past
  have h3 := fwd_Ns [] [e.op, e.x.k]
  have h4 := fwd_Ts [e.x.a, e.x.b, e.x.c, e.x.d]
  simp only [List.length_cons, List.length_nil, Nat.zero_add, Nat.reduceAdd, h.pl] at h1 h2 h3 h4
  have g1 := fun w => h1 w (by simp only [List.mem_cons, List.mem_nil_iff, or_false]; rintro n (rfl | rfl) <;> first | exact h.r | exact h.c)
  have g2 := fun w => h2 w h.p
  have g3 := fun w => h3 w (by simp only [List.mem_cons, List.mem_nil_iff, or_false]; rintro n (rfl | rfl) <;> first | exact h.op | exact h.x.k)
  have g4 := fun w => h4 w (by simp only [List.mem_cons, List.mem_nil_iff, or_false]; rintro n (rfl | rfl | rfl | rfl) <;> first | exact h.x.a | exact h.x.b | exact h.x.c | exact h.x.d)
  have e1 : evBy e ++ w = [e.r, e.c].flatMap putB ++ (e.past.flatMap putB ++ ([e.op, e.x.k].flatMap putB ++ (txB [e.x.a, e.x.b, e.x.c, e.x.d] ++ (putB e.vk ++ (sigB e.vn ++ (textB e.vt ++ w)))))) := by
    simp [evBy, elBy, vlB]
  rw [e1]
  unfold rdV
  simp only [g1, g2, g3, g4, fwd_M h.k, fwd_G h.n, fwd_T h.t]
  rfl

theorem fwd_R {e : Evt} (h : EvtR e) (hb : evB e = true) (w : List Int) : rdR (evBy e ++ w, false) = ((e, true), (w, false)) := by
  unfold rdR
  simp only [fwd_V h]
  rw [if_neg (by simp [hb])]

theorem fwd_rowsO : ∀ (l : List Evt) (w : List Int) (acc : List Evt), (∀ e ∈ l, EvtR e ∧ evB e = true) → rowsO l.length (l.flatMap evBy ++ w, false) false acc = (acc ++ l, (w, false), false)
  | [], w, acc, _ => by simp [rowsO]
  | x :: l, w, acc, h => by
    have hx := fwd_R (h x (by simp)).1 (h x (by simp)).2 (l.flatMap evBy ++ w)
    simp only [List.length_cons, rowsO, List.flatMap_cons, List.append_assoc, hx, oddB]
    rw [if_neg (by simp)]
    simp only [Bool.not_true, Bool.false_and, Bool.or_false]
    rw [fwd_rowsO l w _ fun y hy => h y (by simp [hy])]
    simp

theorem fwd_RowsO (l : List Evt) (w : List Int) (h : ∀ e ∈ l, EvtR e ∧ evB e = true) (hl : l.length ≤ 100000) : rdRowsO (putB l.length ++ (l.flatMap evBy ++ w), false) = (l, (w, false), false) := by
  have hn := fwd_N (n := l.length) (most := 100000) (by constructor <;> omega) (by omega) (l.flatMap evBy ++ w)
  unfold rdRowsO
  rw [hn]
  simp only [Int.toNat_natCast]
  rw [fwd_rowsO l w [] h]
  rfl
end Go.Proofs.YthbhfipgdinihaaDoor

namespace Go.Proofs.YthbhfipgdinihaaDoor
open Go.Sh
set_option maxRecDepth 100000

/-! ## What was read is what was written -/

theorem takeR_pre (cs : List Int) : ∀ (i : Nat) (n : Int) (p : List Int), (takeR i n p cs).2 ≠ 0 → ∃ q r, cs = q ++ r ∧ putB (takeR i n p cs).1 = p ++ q ∧ (takeR i n p cs).2 = i + q.length := by
  induction cs with
  | nil => intro i n p h; exact absurd rfl h
  | cons c cs ih =>
    intro i n p h
    rw [takeR] at h ⊢
    split at h
    · exact absurd rfl h
    · rename_i h8
      rw [if_neg h8]
      split at h
      · rename_i h1
        rw [if_pos h1]
        split at h
        · rename_i h2
          rw [if_pos h2]
          exact ⟨[c], cs, rfl, h2, by simp⟩
        · exact absurd rfl h
      · rename_i h1
        rw [if_neg h1]
        obtain ⟨q, r, e1, e2, e3⟩ := ih _ _ _ h
        exact ⟨c :: q, r, by rw [e1]; rfl, by rw [e2]; simp, by rw [e3]; simp; omega⟩

theorem take_pre {B : List Int} (hB : isB B) (h : (take B).2 ≠ 0) : B = putB (take B).1 ++ B.drop (take B).2.toNat := by
  have hr : takeR 0 0 [] (B.take 9) = take B := take_ref (B.take 9) 0 0 [] (isB_take hB 9) rfl rfl (by simp) (by simp; omega)
  rw [← hr] at h ⊢
  obtain ⟨q, r, e1, e2, e3⟩ := takeR_pre _ _ _ _ h
  rw [e2, e3]
  have : B = q ++ (r ++ B.drop 9) := by rw [← List.append_assoc, ← e1, List.take_append_drop]
  have e4 : (((0 : Nat) : Int) + (q.length : Int)).toNat = q.length := by omega
  rw [e4]
  conv => lhs; rw [this]
  conv => rhs; rw [this]
  simp

theorem bwd_N {s : RS} {most : Int} (hB : isB s.1) (h : (rN most s).2.2 = false) : s.2 = false ∧ s.1 = putB (rN most s).1 ++ (rN most s).2.1 ∧ nOk (rN most s).1 ∧ (rN most s).1 ≤ most := by
  have hok := rN_ok hB most
  refine ⟨?_, ?_, hok, ?_⟩
  · unfold rN rdNum at h
    cases hs : s.2 with
    | false => rfl
    | true => rw [if_pos hs] at h; exact absurd h (by simp)
  · unfold rN rdNum at h ⊢
    split at h
    · exact absurd h (by simp)
    · rename_i h1
      rw [if_neg h1]
      split at h
      · exact absurd h (by simp)
      · rename_i h2
        rw [if_neg h2]
        exact take_pre hB (fun e => h2 (.inl e))
  · unfold rN rdNum at h ⊢
    split at h
    · exact absurd h (by simp)
    · rename_i h1
      rw [if_neg h1]
      split at h
      · exact absurd h (by simp)
      · rename_i h2
        rw [if_neg h2]
        simp only
        omega

theorem bwd_G {s : RS} (hB : isB s.1) (h : (rG s).2.2 = false) : s.2 = false ∧ s.1 = sigB (rG s).1 ++ (rG s).2.1 ∧ gOk (rG s).1 := by
  obtain ⟨h1, h2, h3, h4⟩ := bwd_N (s := s) (most := 2305843009213693952) hB h
  have e : (rG s).1 = sgn (rN 2305843009213693952 s).1 := rfl
  have e2 : (rG s).2 = (rN 2305843009213693952 s).2 := rfl
  rw [e, e2]
  generalize hm : (rN 2305843009213693952 s).1 = m at *
  unfold nOk at h3
  have hg : gOk (sgn m) := by unfold sgn gOk; split <;> omega
  refine ⟨h1, ?_, hg⟩
  have hs : sigB (sgn m) = putB m := by
    unfold gOk at hg
    unfold sigB
    rw [if_neg (by omega)]
    unfold sgn
    by_cases h : m % 2 = 1
    · rw [if_pos h, if_pos (by omega)]; congr 1; omega
    · rw [if_neg h, if_neg (by omega)]; congr 1; omega
  rw [hs]
  exact h2

theorem tB_byte {l : List Int} (h : isB l) : tB (l.map byte) = l := by
  induction l with
  | nil => rfl
  | cons x l ih =>
    have hx := h x (by simp)
    have ih := ih fun y hy => h y (by simp [hy])
    simp only [tB, List.map_cons, List.map_map] at ih ⊢
    rw [ih]
    congr 1
    simp only [byte]
    rw [UInt8.toNat_ofNat']
    omega

theorem bwd_T {s : RS} (hB : isB s.1) (h : (rT s).2.2 = false) : s.2 = false ∧ s.1 = textB (rT s).1 ++ (rT s).2.1 ∧ (rT s).1.length ≤ 1048576 := by
  have hlen := rT_len s
  have hn : (rN 1048576 s).2.2 = false ∧ ¬ ((rN 1048576 s).2.1.length : Int) < (rN 1048576 s).1 := by
    unfold rT rdText at h
    split at h
    · exact absurd h (by simp)
    · rename_i h1
      exact ⟨by
        cases hq : (rN 1048576 s).2.2 with
        | false => rfl
        | true => exact absurd (.inl hq) h1, fun hq => h1 (.inr hq)⟩
  obtain ⟨h1, h2, h3, h4⟩ := bwd_N (s := s) (most := 1048576) hB hn.1
  have hc : ¬ ((rdNum s.1 s.2 1048576).2.2 = true ∨ ((rdNum s.1 s.2 1048576).2.1.length : Int) < (rdNum s.1 s.2 1048576).1) := by
    rintro (hh | hh)
    · have := hn.1; unfold rN at this; rw [hh] at this; exact absurd this (by simp)
    · exact hn.2 hh
  have hi := rN_isB hB 1048576
  have e : rT s = (((rN 1048576 s).2.1.take (rN 1048576 s).1.toNat).map byte, ((rN 1048576 s).2.1.drop (rN 1048576 s).1.toNat, false)) := by
    unfold rT rdText
    rw [if_neg hc]
    simp [txt, rN]
  rw [e]
  generalize hm : (rN 1048576 s).1 = m at *
  generalize hr : (rN 1048576 s).2.1 = r at *
  unfold nOk at h3
  refine ⟨h1, ?_, by simp; omega⟩
  have hl : ((r.take m.toNat).map byte).length = m.toNat := by simp; omega
  unfold textB
  rw [hl, tB_byte (isB_take hi _), Int.toNat_of_nonneg h3.1]
  simp only [List.append_assoc, List.take_append_drop]
  exact h2

theorem isB_of_app {a b c : List Int} (h : isB a) (e : a = b ++ c) : isB c := fun x hx => h x (by rw [e]; simp [hx])

theorem bwd_E {s : RS} (hB : isB s.1) (h : (rdE s).2.2 = false) : s.2 = false ∧ s.1 = entBy (rdE s).1 ++ (rdE s).2.1 ∧ EntR (rdE s).1 := by
  have b1 := rN_isB hB 4611686018427387903
  have b2 := rN_isB b1 4611686018427387903
  have b3 := rN_isB b2 4611686018427387903
  have b4 := rG_isB b3
  obtain ⟨t1, t2, t3⟩ := bwd_T b4 h
  obtain ⟨g1, g2, g3⟩ := bwd_G b3 t1
  obtain ⟨k1, k2, k3, _⟩ := bwd_N b2 g1
  obtain ⟨c1, c2, c3, _⟩ := bwd_N b1 k1
  obtain ⟨r1, r2, r3, _⟩ := bwd_N hB c1
  refine ⟨r1, ?_, ⟨r3, c3, k3, g3, t3⟩⟩
  rw [r2, c2, k2, g2, t2]
  unfold rdE entBy vlB
  simp only [List.append_assoc]

theorem bwd_rowsP {α : Type} {f : RS → α × RS} {enc : α → List Int} {P : α → Prop} (hf : ∀ s : RS, isB s.1 → (f s).2.2 = false → s.2 = false ∧ s.1 = enc (f s).1 ++ (f s).2.1 ∧ P (f s).1) : ∀ (n : Nat) (s : RS) (acc : List α), isB s.1 → (rowsP f n s acc).2.2 = false → (∀ x ∈ acc, P x) →
    s.2 = false ∧ ∃ l, l.length = n ∧ (rowsP f n s acc).1 = acc ++ l ∧ s.1 = l.flatMap enc ++ (rowsP f n s acc).2.1 ∧ ∀ x ∈ l, P x
  | 0, s, acc, _, h, _ => ⟨h, [], rfl, by simp [rowsP], by simp [rowsP], by simp⟩
  | n + 1, s, acc, hB, h, ha => by
    rw [rowsP] at h ⊢
    split at h
    · rename_i hb; rw [hb] at h; exact absurd h (by simp)
    · rename_i hb
      rw [if_neg hb]
      obtain ⟨p1, p2, p3⟩ := hf s hB (by simpa using hb)
      obtain ⟨q1, l, q2, q3, q4, q5⟩ := bwd_rowsP hf n (f s).2 _ (isB_of_app hB p2) h (by
        intro x hx
        rcases List.mem_append.1 hx with hx | hx
        · exact ha x hx
        · rw [List.mem_singleton] at hx; subst hx; exact p3)
      refine ⟨p1, (f s).1 :: l, by simp [q2], by rw [q3]; simp, ?_, ?_⟩
      · rw [List.flatMap_cons, List.append_assoc, ← q4]; exact p2
      · intro x hx
        rcases List.mem_cons.1 hx with rfl | hx
        · exact p3
        · exact q5 x hx

theorem bwd_rows {α : Type} {f : RS → α × RS} {enc : α → List Int} {P : α → Prop} (hf : ∀ s : RS, isB s.1 → (f s).2.2 = false → s.2 = false ∧ s.1 = enc (f s).1 ++ (f s).2.1 ∧ P (f s).1) {s : RS} (hB : isB s.1) (h : (rdRows f s).2.2 = false) :
    s.2 = false ∧ s.1 = putB (rdRows f s).1.length ++ ((rdRows f s).1.flatMap enc ++ (rdRows f s).2.1) ∧ (rdRows f s).1.length ≤ 100000 ∧ ∀ x ∈ (rdRows f s).1, P x := by
  obtain ⟨q1, l, q2, q3, q4, q5⟩ := bwd_rowsP hf _ _ [] (rN_isB hB 100000) h (by simp)
  obtain ⟨n1, n2, n3, n4⟩ := bwd_N hB q1
  have e : (rdRows f s).1 = l := by unfold rdRows; rw [q3]; rfl
  have e2 : (rdRows f s).2 = (rowsP f (rN 100000 s).1.toNat (rN 100000 s).2 []).2 := rfl
  unfold nOk at n3
  rw [e, e2]
  refine ⟨n1, ?_, by omega, q5⟩
  rw [← q4, q2, Int.toNat_of_nonneg n3.1]
  exact n2

theorem bwd_I {s : RS} (hB : isB s.1) (h : (rdI s).2.2 = false) : s.2 = false ∧ s.1 = itemBy (rdI s).1 ++ (rdI s).2.1 ∧ ItmR (rdI s).1 := by
  have b1 := rN_isB hB 4611686018427387903
  have step : ∀ {s : RS}, isB s.1 → ∀ h : (rT s).2.2 = false, isB (rT s).2.1 := fun hb h => isB_of_app hb (bwd_T hb h).2.1
  have hT : ∀ s : RS, isB s.1 → isB (rT s).2.1 := fun s hb => by
    unfold rT rdText
    split
    · exact rN_isB hb 1048576
    · exact isB_drop (rN_isB hb 1048576) _
  have b2 := hT _ b1
  have b3 := hT _ b2
  have b4 := hT _ b3
  have b5 := hT _ b4
  obtain ⟨l1, l2, l3, l4⟩ := bwd_rows (f := rdE) (enc := entBy) (P := EntR) (fun s hb hh => bwd_E hb hh) b5 h
  obtain ⟨d1, d2, d3⟩ := bwd_T b4 l1
  obtain ⟨c1, c2, c3⟩ := bwd_T b3 d1
  obtain ⟨bb1, bb2, bb3⟩ := bwd_T b2 c1
  obtain ⟨a1, a2, a3⟩ := bwd_T b1 bb1
  obtain ⟨k1, k2, k3, _⟩ := bwd_N hB a1
  refine ⟨k1, ?_, ⟨⟨k3, a3, bb3, c3, d3⟩, l3, l4⟩⟩
  rw [k2, a2, bb2, c2, d2, l2]
  unfold rdI itemBy elBy txB
  simp only [List.flatMap_cons, List.flatMap_nil, List.append_nil, List.append_assoc]

theorem bwd_Ns : ∀ (k : Nat) (s : RS), isB s.1 → (rNs k s).2.2 = false → s.2 = false ∧ s.1 = (rNs k s).1.flatMap putB ++ (rNs k s).2.1 ∧ ∀ n ∈ (rNs k s).1, nOk n
  | 0, s, _, h => ⟨h, by simp [rNs], by simp [rNs]⟩
  | k + 1, s, hB, h => by
    have hN : ∀ (k : Nat) (s : RS), isB s.1 → isB (rNs k s).2.1 := fun k => by
      induction k with
      | zero => intro s h; exact h
      | succ k ih => intro s h; exact rN_isB (ih s h) _
    obtain ⟨n1, n2, n3, _⟩ := bwd_N (hN k s hB) h
    obtain ⟨p1, p2, p3⟩ := bwd_Ns k s hB n1
    refine ⟨p1, ?_, ?_⟩
    · simp only [rNs, List.flatMap_append, List.flatMap_cons, List.flatMap_nil, List.append_nil, List.append_assoc]
      rw [← n2]; exact p2
    · intro n hn
      simp only [rNs] at hn
      rcases List.mem_append.1 hn with hn | hn
      · exact p3 n hn
      · rw [List.mem_singleton] at hn; subst hn; exact n3

theorem isB_rT {s : RS} (hb : isB s.1) : isB (rT s).2.1 := by
  unfold rT rdText
  split
  · exact rN_isB hb 1048576
  · exact isB_drop (rN_isB hb 1048576) _
theorem isB_rNs : ∀ (k : Nat) {s : RS}, isB s.1 → isB (rNs k s).2.1
  | 0, _, h => h
  | k + 1, _, h => rN_isB (isB_rNs k h) _
theorem isB_rTs : ∀ (k : Nat) {s : RS}, isB s.1 → isB (rTs k s).2.1
  | 0, _, h => h
  | k + 1, _, h => isB_rT (isB_rTs k h)

theorem bwd_Ts : ∀ (k : Nat) (s : RS), isB s.1 → (rTs k s).2.2 = false → s.2 = false ∧ s.1 = txB (rTs k s).1 ++ (rTs k s).2.1 ∧ ∀ n ∈ (rTs k s).1, n.length ≤ 1048576
  | 0, s, _, h => ⟨h, by simp [rTs, txB], by simp [rTs]⟩
  | k + 1, s, hB, h => by
    obtain ⟨n1, n2, n3⟩ := bwd_T (isB_rTs k hB) h
    obtain ⟨p1, p2, p3⟩ := bwd_Ts k s hB n1
    refine ⟨p1, ?_, ?_⟩
    · simp only [rTs, txB, List.flatMap_append, List.flatMap_cons, List.flatMap_nil, List.append_nil, List.append_assoc]
      rw [← n2]; exact p2
    · intro n hn
      simp only [rTs] at hn
      rcases List.mem_append.1 hn with hn | hn
      · exact p3 n hn
      · rw [List.mem_singleton] at hn; subst hn; exact n3

theorem len2 {l : List Int} (h : l.length = 2) : l = [l.getD 0 0, l.getD 1 0] := by
  match l, h with
  | [a, b], _ => rfl
theorem len4 {l : List (List UInt8)} (h : l.length = 4) : l = [l.getD 0 [], l.getD 1 [], l.getD 2 [], l.getD 3 []] := by
  match l, h with
  | [a, b, c, d], _ => rfl

theorem bwd_V {s : RS} (hB : isB s.1) (h : (rdV s).2.2 = false) : s.2 = false ∧ s.1 = evBy (rdV s).1 ++ (rdV s).2.1 ∧ EvtR (rdV s).1 := by
  have b1 := isB_rNs 2 hB
  have b2 := isB_rNs 16 b1
  have b3 := isB_rNs 2 b2
  have b4 := isB_rTs 4 b3
  have b5 := rN_isB b4 4611686018427387903
  have b6 := rG_isB b5
  obtain ⟨t1, t2, t3⟩ := bwd_T b6 h
  obtain ⟨g1, g2, g3⟩ := bwd_G b5 t1
  obtain ⟨k1, k2, k3, _⟩ := bwd_N b4 g1
  obtain ⟨x1, x2, x3⟩ := bwd_Ts 4 _ b3 k1
  obtain ⟨o1, o2, o3⟩ := bwd_Ns 2 _ b2 x1
  obtain ⟨p1, p2, p3⟩ := bwd_Ns 16 _ b1 o1
  obtain ⟨d1, d2, d3⟩ := bwd_Ns 2 _ hB p1
  have l2 := len2 (rNs_len 2 s)
  have l3 := len2 (rNs_len 2 (rNs 16 (rNs 2 s).2).2)
  have l4 := len4 (rTs_len 4 (rNs 2 (rNs 16 (rNs 2 s).2).2).2)
  refine ⟨d1, ?_, ?_⟩
  · rw [d2, p2, o2, x2, k2, g2, t2, l2, l3, l4]
    simp only [rdV, evBy, elBy, vlB, List.flatMap_cons, List.flatMap_nil, List.append_nil, List.append_assoc, List.getD_cons_zero, List.getD_cons_succ]
  · have m2 : ∀ {l : List Int}, l.length = 2 → l.getD 0 0 ∈ l ∧ l.getD 1 0 ∈ l := by
      intro l h; match l, h with
      | [a, b], _ => simp
    have m4 : ∀ {l : List (List UInt8)}, l.length = 4 → l.getD 0 [] ∈ l ∧ l.getD 1 [] ∈ l ∧ l.getD 2 [] ∈ l ∧ l.getD 3 [] ∈ l := by
      intro l h; match l, h with
      | [a, b, c, d], _ => simp
    obtain ⟨u1, u2⟩ := m2 (rNs_len 2 s)
    obtain ⟨v1, v2⟩ := m2 (rNs_len 2 (rNs 16 (rNs 2 s).2).2)
    obtain ⟨w1, w2, w3, w4⟩ := m4 (rTs_len 4 (rNs 2 (rNs 16 (rNs 2 s).2).2).2)
    exact ⟨d3 _ u1, d3 _ u2, rNs_len 16 _, p3, o3 _ v1, ⟨o3 _ v2, x3 _ w1, x3 _ w2, x3 _ w3, x3 _ w4⟩, k3, g3, t3⟩

theorem bwd_rowsO : ∀ (n : Nat) (s : RS) (acc : List Evt) (o : Bool), isB s.1 → (rowsO n s o acc).2.1.2 = false → (rowsO n s o acc).2.2 = false →
    o = false ∧ s.2 = false ∧ ∃ l, l.length = n ∧ (rowsO n s o acc).1 = acc ++ l ∧ s.1 = l.flatMap evBy ++ (rowsO n s o acc).2.1.1 ∧ ∀ x ∈ l, EvtR x ∧ evB x = true
  | 0, s, acc, o, _, h, ho => ⟨ho, h, [], rfl, by simp [rowsO], by simp [rowsO], by simp⟩
  | n + 1, s, acc, o, hB, h, ho => by
    rw [rowsO] at h ho ⊢
    split at h
    · rename_i hb; rw [hb] at h; exact absurd h (by simp)
    · rename_i hb
      rw [if_neg hb] at ho ⊢
      have hb' : (rdR s).2.2 = false := by simpa using hb
      have e2 : (rdR s).2 = (rdV s).2 := by simp only [rdR]; split <;> rfl
      have hv : (rdV s).2.2 = false := by rw [← e2]; exact hb'
      obtain ⟨p1, p2, p3⟩ := bwd_V hB hv
      have hi : isB (rdR s).2.1 := by rw [e2]; exact isB_of_app hB p2
      obtain ⟨q0, q1, l, q2, q3, q4, q5⟩ := bwd_rowsO n (rdR s).2 _ _ hi h ho
      simp only [oddB, hb', Bool.not_false, Bool.and_true, Bool.or_eq_false_iff, Bool.not_eq_false'] at q0
      have hev : evB (rdV s).1 = true := by
        cases hc : evB (rdV s).1 with
        | true => rfl
        | false =>
          have : (rdR s).1.2 = false := by unfold rdR; rw [if_pos (.inr hc)]
          rw [this] at q0; exact absurd q0.2 (by simp)
      have e1 : (rdR s).1.1 = (rdV s).1 := by unfold rdR; rw [if_neg (by simp [hv, hev])]
      refine ⟨q0.1, p1, (rdV s).1 :: l, by simp [q2], by rw [q3, e1]; simp, ?_, ?_⟩
      · rw [List.flatMap_cons, List.append_assoc, ← q4, e2]; exact p2
      · intro x hx
        rcases List.mem_cons.1 hx with rfl | hx
        · exact ⟨p3, hev⟩
        · exact q5 x hx

theorem bwd_RowsO {s : RS} (hB : isB s.1) (h : (rdRowsO s).2.1.2 = false) (ho : (rdRowsO s).2.2 = false) :
    s.2 = false ∧ s.1 = putB (rdRowsO s).1.length ++ ((rdRowsO s).1.flatMap evBy ++ (rdRowsO s).2.1.1) ∧ (rdRowsO s).1.length ≤ 100000 ∧ ∀ x ∈ (rdRowsO s).1, EvtR x ∧ evB x = true := by
  obtain ⟨_, q1, l, q2, q3, q4, q5⟩ := bwd_rowsO _ _ [] false (rN_isB hB 100000) h ho
  obtain ⟨n1, n2, n3, n4⟩ := bwd_N hB q1
  have e : (rdRowsO s).1 = l := by unfold rdRowsO; rw [q3]; rfl
  have e2 : (rdRowsO s).2 = (rowsO (rN 100000 s).1.toNat (rN 100000 s).2 false []).2 := rfl
  unfold nOk at n3
  rw [e, e2]
  refine ⟨n1, ?_, by omega, q5⟩
  rw [← q4, q2, Int.toNat_of_nonneg n3.1]
  exact n2
end Go.Proofs.YthbhfipgdinihaaDoor

namespace Go.Proofs.YthbhfipgdinihaaDoor
open Go.Sh
set_option maxRecDepth 100000

/-! ## A snapshot that may be is read as it was -/

theorem rightV_rng {k n : Int} {t : List UInt8} (h : rightV k n t = true) : nOk k ∧ gOk n := by
  unfold rightV at h
  unfold nOk gOk
  split at h
  · simp only [decide_eq_true_eq] at h; omega
  · split at h
    · simp only [decide_eq_true_eq] at h; omega
    · split at h
      · simp only [decide_eq_true_eq] at h; omega
      · split at h
        · simp only [Bool.and_eq_true, decide_eq_true_eq] at h; omega
        · split at h
          · simp only [Bool.and_eq_true, decide_eq_true_eq] at h; omega
          · split at h
            · simp only [Bool.and_eq_true, decide_eq_true_eq] at h; omega
            · cases h

theorem vnone_rng {k n : Int} {t : List UInt8} (h : vnone k n t = true) : nOk k ∧ gOk n := by
  simp only [vnone, decide_eq_true_eq] at h
  unfold nOk gOk; omega

theorem mayB_rng {op : Int} {x : El} {vk vn : Int} {vt : List UInt8} (h : mayB op x vk vn vt = true) : nOk op ∧ nOk x.k ∧ nOk vk ∧ gOk vn := by
  unfold mayB at h
  rw [Bool.and_eq_true] at h
  obtain ⟨h1, h2⟩ := h
  have hk : nOk x.k := by rcases elem_kind h1 with h | h | h | h | h <;> rw [h] <;> constructor <;> omega
  split at h2
  · rename_i ho
    rw [Bool.and_eq_true] at h2
    obtain ⟨a, b⟩ := vnone_rng h2.1
    exact ⟨by unfold nOk; omega, hk, a, b⟩
  · split at h2
    · rename_i ho
      rw [Bool.and_eq_true, Bool.and_eq_true] at h2
      obtain ⟨a, b⟩ := rightV_rng h2.2.2
      exact ⟨by unfold nOk; omega, hk, a, b⟩
    · split at h2
      · rename_i ho
        rw [Bool.and_eq_true] at h2
        obtain ⟨a, b⟩ := vnone_rng h2.1
        exact ⟨by unfold nOk; omega, hk, a, b⟩
      · cases h2

theorem dotB_rng {r c : Int} (h : dotB r c = true) : nOk r ∧ nOk c := by
  simp only [dotB, decide_eq_true_eq] at h
  unfold nOk; omega

theorem vecB_rng {v : List Int} (h : vecB v = true) : ∀ n ∈ v, nOk n := fun n hn => by
  have := List.all_eq_true.1 h n hn
  simp only [decide_eq_true_eq] at this
  unfold nOk; omega

theorem getD_mem {α : Type} {l : List α} {x d : α} (h : x ∈ l) : ∃ i, i < l.length ∧ l.getD i d = x := by
  obtain ⟨i, hi, rfl⟩ := List.getElem_of_mem h
  exact ⟨i, hi, by simp [hi]⟩

theorem ent_mem {x : El} {L : List Ent} (h : okPutB x L = true) : elemV x.k x.a x.b x.c x.d = true ∧ ∀ e ∈ L, entryB x e = true := by
  unfold okPutB at h
  rw [Bool.and_eq_true] at h
  refine ⟨h.1, fun e he => ?_⟩
  obtain ⟨i, hi, h2⟩ := getD_mem (d := default) he
  have := List.all_eq_true.1 h.2 i (List.mem_range.2 hi)
  unfold okAt at this
  rw [Bool.and_eq_true, h2] at this
  exact this.1

theorem itm_mem {kv : List Int} {I : List Itm} (h : (List.range I.length).all (itAt kv I) = true) : ∀ p ∈ I, itemB kv p.x p.L = true := fun p hp => by
  obtain ⟨i, hi, h2⟩ := getD_mem (d := default) hp
  have := List.all_eq_true.1 h i (List.mem_range.2 hi)
  unfold itAt at this
  rw [Bool.and_eq_true, h2] at this
  exact this.1

theorem item_R {kv : List Int} {p : Itm} (h : itemB kv p.x p.L = true) (hx : ElFit p.x) (hL : p.L.length ≤ 100000) (he : ∀ e ∈ p.L, e.t.length ≤ 1048576) : ItmR p := by
  unfold itemB at h
  rw [Bool.and_eq_true, Bool.and_eq_true] at h
  obtain ⟨_, h1, _⟩ := h
  obtain ⟨h2, h3⟩ := ent_mem h1
  have hk : nOk p.x.k := by rcases elem_kind h2 with h | h | h | h | h <;> rw [h] <;> constructor <;> omega
  refine ⟨⟨hk, hx.a, hx.b, hx.c, hx.d⟩, hL, fun e hm => ?_⟩
  have := h3 e hm
  unfold entryB at this
  rw [Bool.and_eq_true] at this
  obtain ⟨r1, r2⟩ := dotB_rng this.1
  obtain ⟨_, _, r3, r4⟩ := mayB_rng this.2
  exact ⟨r1, r2, r3, r4, he e hm⟩

theorem event_R {e : Evt} (h : evB e = true) (hf : EvFit e) : EvtR e := by
  unfold evB at h
  rw [Bool.and_eq_true, Bool.and_eq_true] at h
  obtain ⟨⟨h1, h2⟩, h3⟩ := h
  unfold nextB at h1
  rw [Bool.and_eq_true] at h1
  obtain ⟨r1, r2⟩ := dotB_rng h1.1
  obtain ⟨o, k, r3, r4⟩ := mayB_rng h3
  exact ⟨r1, r2, hf.past, vecB_rng h2, o, ⟨k, hf.x.a, hf.x.b, hf.x.c, hf.x.d⟩, r3, r4, hf.t⟩

theorem right_parts {kv : List Int} {I : List Itm} {E : List Evt} (h : rightB kv I E = true) : vecB kv = true ∧ (List.range I.length).all (itAt kv I) = true ∧ ∀ e ∈ E, evB e = true ∧ knowsB kv e.r e.c = true := by
  unfold rightB at h
  rw [Bool.and_eq_true, Bool.and_eq_true] at h
  refine ⟨h.1, h.2.1, fun e he => ?_⟩
  have := List.all_eq_true.1 h.2.2 e he
  unfold evAt at this
  rwa [Bool.and_eq_true] at this

structure SnFit (kv : List Int) (I : List Itm) (E : List Evt) : Prop where
  k : kv.length = 16
  i : ∀ p ∈ I, ElFit p.x ∧ p.L.length ≤ 100000 ∧ ∀ e ∈ p.L, e.t.length ≤ 1048576
  il : I.length ≤ 100000
  e : ∀ e ∈ E, EvFit e
  el : E.length ≤ 100000

/-- Behind a snapshot's bytes lie w. -/
theorem parse_by {kv : List Int} {I : List Itm} {E : List Evt} (hf : SnFit kv I E) (h : rightB kv I E = true) (w : List Int) :
    (pK (snapBy kv I E ++ w)).1 = kv ∧ (pI (snapBy kv I E ++ w)).1 = I ∧ pV (snapBy kv I E ++ w) = (E, (w, false), false) := by
  obtain ⟨h1, h2, h3⟩ := right_parts h
  have hi := itm_mem h2
  have e1 : snapBy kv I E ++ w = kv.flatMap putB ++ (putB I.length ++ (I.flatMap itemBy ++ (putB E.length ++ (E.flatMap evBy ++ w)))) := by
    simp [snapBy]
  have k1 := fwd_Ns [] kv (putB I.length ++ (I.flatMap itemBy ++ (putB E.length ++ (E.flatMap evBy ++ w)))) (vecB_rng h1)
  rw [hf.k, ← e1] at k1
  have hK : pK (snapBy kv I E ++ w) = (kv, (putB I.length ++ (I.flatMap itemBy ++ (putB E.length ++ (E.flatMap evBy ++ w))), false)) := k1
  have hI : pI (snapBy kv I E ++ w) = (I, (putB E.length ++ (E.flatMap evBy ++ w), false)) := by
    unfold pI
    rw [hK]
    exact fwd_rows (f := rdI) (enc := itemBy) I _ (fun p hp w => fwd_I (item_R (hi p hp) (hf.i p hp).1 (hf.i p hp).2.1 (hf.i p hp).2.2) w) hf.il
  have hV : pV (snapBy kv I E ++ w) = (E, (w, false), false) := by
    unfold pV
    rw [hI]
    exact fwd_RowsO E w (fun e he => ⟨event_R (h3 e he).1 (hf.e e he), (h3 e he).1⟩) hf.el
  exact ⟨by rw [hK], by rw [hI], hV⟩

theorem parse_code {kv : List Int} {I : List Itm} {E : List Evt} (hf : SnFit kv I E) (h : rightB kv I E = true) : pCode (snapBy kv I E) = 0 ∧ (pK (snapBy kv I E)).1 = kv ∧ (pI (snapBy kv I E)).1 = I ∧ (pV (snapBy kv I E)).1 = E := by
  have := parse_by hf h []
  rw [List.append_nil] at this
  obtain ⟨a, b, c⟩ := this
  refine ⟨?_, a, b, by rw [c]⟩
  unfold pCode
  rw [a, b, c]
  simp [h]

theorem code_zero {B : List Int} (h : pCode B = 0) : (pV B).2.1.2 = false ∧ (pV B).2.1.1 = [] ∧ (pV B).2.2 = false ∧ rightB (pK B).1 (pI B).1 (pV B).1 = true := by
  unfold pCode at h
  split at h
  · omega
  · rename_i h1
    split at h
    · omega
    · rename_i h2
      simp only [Bool.or_eq_true, not_or, Bool.not_eq_true, Bool.not_eq_false', decide_eq_true_eq] at h1 h2
      exact ⟨h1.1, h1.2, h2.1, h2.2⟩

/-- Bytes that are read are those of what they tell. -/
theorem parse_back {B : List Int} (hB : isB B) (h : pCode B = 0) : B = snapBy (pK B).1 (pI B).1 (pV B).1 ∧ (∀ p ∈ (pI B).1, ItmR p) ∧ (∀ e ∈ (pV B).1, EvtR e) := by
  obtain ⟨c1, c2, c3, c4⟩ := code_zero h
  have i1 : isB (pK B).2.1 := isB_rNs 16 (s := (B, false)) hB
  have i2 : isB (pI B).2.1 := by
    have hI : ∀ {s : RS}, isB s.1 → isB (rdI s).2.1 := fun {s} hb => by
      have hE : ∀ {s : RS}, isB s.1 → isB (rdE s).2.1 := fun {s} hb => isB_rT (rG_isB (rN_isB (rN_isB (rN_isB hb _) _) _))
      have hrow : ∀ (n : Nat) (s : RS) (acc : List Ent), isB s.1 → isB (rowsP rdE n s acc).2.1 := fun n => by
        induction n with
        | zero => intro s acc hb; exact hb
        | succ n ih => intro s acc hb; rw [rowsP]; split <;> first | exact hE hb | exact ih _ _ (hE hb)
      exact hrow _ _ _ (rN_isB (isB_rT (isB_rT (isB_rT (isB_rT (rN_isB hb _))))) _)
    have hrow : ∀ (n : Nat) (s : RS) (acc : List Itm), isB s.1 → isB (rowsP rdI n s acc).2.1 := fun n => by
      induction n with
      | zero => intro s acc hb; exact hb
      | succ n ih => intro s acc hb; rw [rowsP]; split <;> first | exact hI hb | exact ih _ _ (hI hb)
    exact hrow _ _ _ (rN_isB i1 _)
  obtain ⟨v1, v2, v3, v4⟩ := bwd_RowsO i2 c1 c3
  obtain ⟨j1, j2, j3, j4⟩ := bwd_rows (f := rdI) (enc := itemBy) (P := ItmR) (fun s hb hh => bwd_I hb hh) i1 v1
  obtain ⟨k1, k2, k3⟩ := bwd_Ns 16 (B, false) hB j1
  refine ⟨?_, j4, fun e he => (v4 e he).1⟩
  have k2' : B = (pK B).1.flatMap putB ++ (pK B).2.1 := k2
  have j2' : (pK B).2.1 = putB (pI B).1.length ++ ((pI B).1.flatMap itemBy ++ (pI B).2.1) := j2
  have v2' : (pI B).2.1 = putB (pV B).1.length ++ ((pV B).1.flatMap evBy ++ (pV B).2.1.1) := v2
  rw [c2, List.append_nil] at v2'
  conv => lhs; rw [k2', j2', v2']
  rfl
end Go.Proofs.YthbhfipgdinihaaDoor

namespace Go.Proofs.YthbhfipgdinihaaDoor
open Go.Sh
set_option maxRecDepth 100000

/-! ## No part of a snapshot's bytes is one's -/

/-- What F leaves of bytes that are x, and of less. -/
structure Rdr (F : RS → RS) (x : List Int) : Prop where
  p : ∀ k, k < x.length → (F (x.take k, false)).2 = true
  w : ∀ w, F (x ++ w, false) = (w, false)
  b : ∀ s : RS, s.2 = true → (F s).2 = true

theorem Rdr.seq {F G : RS → RS} {x y : List Int} (hF : Rdr F x) (hG : Rdr G y) : Rdr (fun s => G (F s)) (x ++ y) where
  p k hk := by
    by_cases h : k < x.length
    · rw [List.take_append_of_le_length (by omega)]
      exact hG.b _ (hF.p k h)
    · have e : (x ++ y).take k = x ++ y.take (k - x.length) := by rw [List.take_append, List.take_of_length_le (by omega)]
      rw [e, hF.w]
      rw [List.length_append] at hk
      exact hG.p _ (by omega)
  w w := by
    show G (F (x ++ y ++ w, false)) = _
    rw [List.append_assoc, hF.w, hG.w]
  b s h := hG.b _ (hF.b s h)

theorem Rdr.nil : Rdr (fun s => s) [] := ⟨fun k h => by simp at h, fun w => rfl, fun s h => h⟩
theorem Rdr.of_eq {F G : RS → RS} {x : List Int} (h : Rdr F x) (e : ∀ s, G s = F s) : Rdr G x := by
  have : G = F := funext e
  rw [this]; exact h

theorem hiB_ge {n : Int} (h0 : 0 ≤ n) : ∀ c ∈ hiB n, 128 ≤ c := by
  fun_induction hiB n with
  | case1 n hn => intro c hc; cases hc
  | case2 n hn ih =>
    intro c hc
    rcases List.mem_cons.1 hc with rfl | hc
    · omega
    · exact ih (by omega) c hc

theorem takeP_hi (cs : List Int) : ∀ (i : Nat) (m : Int), (∀ c ∈ cs, 128 ≤ c) → takeP i m cs = (0, 0) := by
  induction cs with
  | nil => intro i m _; rfl
  | cons c cs ih =>
    intro i m h
    have := h c (by simp)
    rw [takeP, if_neg (by omega)]
    exact ih _ _ fun x hx => h x (by simp [hx])

theorem rdr_N {n most : Int} (h : nOk n) (hm : n ≤ most) : Rdr (fun s => (rN most s).2) (putB n) where
  p k hk := by
    rw [putB_numB h] at hk ⊢
    have hk' : k ≤ (hiB n).length := by simp only [numB, List.length_append, List.length_singleton] at hk; omega
    have e : (numB n).take k = (hiB n).take k := by rw [numB, List.take_append_of_le_length hk']
    have ht : take ((numB n).take k) = (0, 0) := by
      unfold take
      rw [e]
      exact takeP_hi _ _ _ fun c hc => hiB_ge h.1 c (List.mem_of_mem_take (List.mem_of_mem_take hc))
    simp only [rN, rdNum]
    rw [if_neg (by simp), if_pos (by rw [ht]; exact .inl rfl)]
  w w := by rw [fwd_N h hm w]
  b s hs := by
    simp only [rN, rdNum]
    rw [if_pos hs]

theorem rdr_M {n : Int} (h : nOk n) : Rdr (fun s => (rM s).2) (putB n) := rdr_N h h.2

theorem rdr_G {n : Int} (h : gOk n) : Rdr (fun s => (rG s).2) (sigB n) := by
  have e : ∀ s : RS, (rG s).2 = (rN 2305843009213693952 s).2 := fun s => rfl
  refine Rdr.of_eq (F := fun s => (rN 2305843009213693952 s).2) ?_ e
  unfold gOk at h
  unfold sigB
  rw [if_neg (by omega)]
  split <;> exact rdr_N (by constructor <;> omega) (by omega)

theorem rdr_T {t : List UInt8} (h : t.length ≤ 1048576) : Rdr (fun s => (rT s).2) (textB t) where
  p k hk := by
    have hn : nOk (t.length : Int) := by constructor <;> omega
    have hN := rdr_N (most := 1048576) hn (by omega)
    unfold textB at hk ⊢
    rw [List.length_append, tB_len] at hk
    by_cases hlt : k < (putB (t.length : Int)).length
    · rw [List.take_append_of_le_length (by omega)]
      have := hN.p k hlt
      simp only [rT, rdText]
      rw [if_pos (.inl this)]
    · have e : (putB (t.length : Int) ++ tB t).take k = putB (t.length : Int) ++ (tB t).take (k - (putB (t.length : Int)).length) := by rw [List.take_append, List.take_of_length_le (by omega)]
      have hw := fwd_N (most := 1048576) hn (by omega) ((tB t).take (k - (putB (t.length : Int)).length))
      rw [e]
      unfold rN at hw
      simp only [rT, rdText]
      rw [hw]
      rw [if_pos]
      right
      simp only [List.length_take, tB_len]
      omega
  w w := by rw [fwd_T h w]
  b s hs := by
    have : (rdNum s.1 s.2 1048576).2.2 = true := by
      simp only [rdNum]; rw [if_pos hs]
    simp only [rT, rdText]
    rw [if_pos (.inl this)]

theorem rdr_E {e : Ent} (h : EntR e) : Rdr (fun s => (rdE s).2) (entBy e) :=
  ((rdr_M h.r).seq ((rdr_M h.c).seq ((rdr_M h.k).seq ((rdr_G h.n).seq (rdr_T h.t))))).of_eq fun _ => rfl

theorem rdr_rowsP {α : Type} {f : RS → α × RS} {enc : α → List Int} : ∀ (l : List α) (acc : List α), (∀ x ∈ l, Rdr (fun s => (f s).2) (enc x)) → Rdr (fun s => (rowsP f l.length s acc).2) (l.flatMap enc) ∧ ∀ (n : Nat) (acc : List α) (s : RS), s.2 = true → (∀ s : RS, s.2 = true → (f s).2.2 = true) → (rowsP f n s acc).2.2 = true := by
  intro l acc hl
  have hbad : ∀ (n : Nat) (acc : List α) (s : RS), s.2 = true → (∀ s : RS, s.2 = true → (f s).2.2 = true) → (rowsP f n s acc).2.2 = true := by
    intro n
    induction n with
    | zero => intro acc s h _; exact h
    | succ n ih =>
      intro acc s h hf
      rw [rowsP, if_pos (hf s h)]
      exact hf s h
  refine ⟨?_, hbad⟩
  induction l generalizing acc with
  | nil => exact Rdr.nil
  | cons x l ih =>
    have hx := hl x (by simp)
    have hr := ih [] (fun y hy => hl y (by simp [hy]))
    refine ⟨fun k hk => ?_, fun w => ?_, fun s hs => ?_⟩
    · rw [List.flatMap_cons] at hk ⊢
      show (rowsP f (l.length + 1) _ acc).2.2 = true
      rw [rowsP]
      by_cases h : k < (enc x).length
      · rw [List.take_append_of_le_length (by omega)]
        have := hx.p k h
        rw [if_pos this]; exact this
      · have e : (enc x ++ l.flatMap enc).take k = enc x ++ (l.flatMap enc).take (k - (enc x).length) := by rw [List.take_append, List.take_of_length_le (by omega)]
        have hw := hx.w ((l.flatMap enc).take (k - (enc x).length))
        rw [e, hw, if_neg (by simp)]
        rw [List.length_append] at hk
        exact (ih _ (fun y hy => hl y (by simp [hy]))).p _ (by omega)
    · rw [List.flatMap_cons, List.append_assoc]
      show (rowsP f (l.length + 1) _ acc).2 = _
      have hw := hx.w (l.flatMap enc ++ w)
      rw [rowsP, hw, if_neg (by simp)]
      exact (ih _ (fun y hy => hl y (by simp [hy]))).w w
    · show (rowsP f (l.length + 1) s acc).2.2 = true
      have := hx.b s hs
      rw [rowsP, if_pos this]; exact this

theorem rdr_rows {α : Type} {f : RS → α × RS} {enc : α → List Int} (l : List α) (hl : l.length ≤ 100000) (h : ∀ x ∈ l, Rdr (fun s => (f s).2) (enc x)) : Rdr (fun s => (rdRows f s).2) (putB l.length ++ l.flatMap enc) := by
  have hn : nOk (l.length : Int) := by constructor <;> omega
  have hN := rdr_N (most := 100000) hn (by omega)
  have hR := (rdr_rowsP (f := f) (enc := enc) l [] h).1
  have bad0 : ∀ s : RS, (rN 100000 s).2.2 = true → (rN 100000 s).1 = 0 := fun s hs => by
    unfold rN rdNum at hs ⊢
    split
    · rfl
    · rename_i h1
      rw [if_neg h1] at hs
      split
      · rfl
      · rename_i h2; rw [if_neg h2] at hs; exact absurd hs (by simp)
  refine ⟨fun k hk => ?_, fun w => ?_, fun s hs => ?_⟩
  · by_cases hlt : k < (putB (l.length : Int)).length
    · rw [List.take_append_of_le_length (by omega)]
      have := hN.p k hlt
      simp only [rdRows]
      rw [bad0 _ this]
      exact this
    · have e : (putB (l.length : Int) ++ l.flatMap enc).take k = putB (l.length : Int) ++ (l.flatMap enc).take (k - (putB (l.length : Int)).length) := by rw [List.take_append, List.take_of_length_le (by omega)]
      rw [e]
      simp only [rdRows]
      rw [fwd_N hn (by omega)]
      simp only [Int.toNat_natCast]
      rw [List.length_append] at hk
      exact hR.p _ (by omega)
  · simp only [rdRows]
    rw [List.append_assoc, fwd_N hn (by omega)]
    simp only [Int.toNat_natCast]
    exact hR.w w
  · simp only [rdRows]
    have := hN.b s hs
    rw [bad0 _ this]
    exact this

theorem rdr_I {p : Itm} (h : ItmR p) : Rdr (fun s => (rdI s).2) (itemBy p) := by
  have hr := rdr_rows (f := rdE) (enc := entBy) p.L h.L fun e he => rdr_E (h.e e he)
  have := (rdr_M h.x.k).seq ((rdr_T h.x.a).seq ((rdr_T h.x.b).seq ((rdr_T h.x.c).seq ((rdr_T h.x.d).seq hr))))
  have e : putB p.x.k ++ (textB p.x.a ++ (textB p.x.b ++ (textB p.x.c ++ (textB p.x.d ++ (putB p.L.length ++ p.L.flatMap entBy))))) = itemBy p := by
    simp [itemBy, elBy, txB]
  rw [e] at this
  exact this.of_eq fun _ => rfl

theorem rdr_Ns (l : List Int) (h : ∀ n ∈ l, nOk n) : Rdr (fun s => (rNs l.length s).2) (l.flatMap putB) := by
  suffices hh : ∀ m : List Int, (∀ n ∈ m, nOk n) → Rdr (fun s => (rNs m.length s).2) (m.flatMap putB) from hh l h
  intro m
  induction hm : m.length generalizing m with
  | zero =>
    intro _
    have : m = [] := List.eq_nil_of_length_eq_zero hm
    subst this
    exact Rdr.nil
  | succ k ih =>
    intro hall
    obtain ⟨l', n, rfl⟩ : ∃ l' n, m = l' ++ [n] := by
      have hne : m ≠ [] := by rintro rfl; simp at hm
      exact ⟨m.dropLast, m.getLast hne, (List.dropLast_concat_getLast hne).symm⟩
    have hl : l'.length = k := by simpa using hm
    have h1 := ih l' hl (fun x hx => hall x (by simp [hx]))
    have h2 := h1.seq (rdr_M (hall n (by simp)))
    rw [List.flatMap_append, List.flatMap_cons, List.flatMap_nil, List.append_nil]
    exact h2.of_eq fun _ => rfl

theorem rdr_Ts (l : List (List UInt8)) (h : ∀ t ∈ l, t.length ≤ 1048576) : Rdr (fun s => (rTs l.length s).2) (txB l) := by
  suffices hh : ∀ m : List (List UInt8), (∀ n ∈ m, n.length ≤ 1048576) → Rdr (fun s => (rTs m.length s).2) (m.flatMap textB) from hh l h
  intro m
  induction hm : m.length generalizing m with
  | zero =>
    intro _
    have : m = [] := List.eq_nil_of_length_eq_zero hm
    subst this
    exact Rdr.nil
  | succ k ih =>
    intro hall
    obtain ⟨l', n, rfl⟩ : ∃ l' n, m = l' ++ [n] := by
      have hne : m ≠ [] := by rintro rfl; simp at hm
      exact ⟨m.dropLast, m.getLast hne, (List.dropLast_concat_getLast hne).symm⟩
    have hl : l'.length = k := by simpa using hm
    have h1 := ih l' hl (fun x hx => hall x (by simp [hx]))
    have h2 := h1.seq (rdr_T (hall n (by simp)))
    rw [List.flatMap_append, List.flatMap_cons, List.flatMap_nil, List.append_nil]
    exact h2.of_eq fun _ => rfl

theorem rdr_V {e : Evt} (h : EvtR e) : Rdr (fun s => (rdV s).2) (evBy e) := by
  have h1 := rdr_Ns [e.r, e.c] (by simp only [List.mem_cons, List.mem_nil_iff, or_false]; rintro n (rfl | rfl) <;> first | exact h.r | exact h.c)
  have h2 := rdr_Ns e.past h.p
  have h3 := rdr_Ns [e.op, e.x.k] (by simp only [List.mem_cons, List.mem_nil_iff, or_false]; rintro n (rfl | rfl) <;> first | exact h.op | exact h.x.k)
  have h4 := rdr_Ts [e.x.a, e.x.b, e.x.c, e.x.d] (by simp only [List.mem_cons, List.mem_nil_iff, or_false]; rintro n (rfl | rfl | rfl | rfl) <;> first | exact h.x.a | exact h.x.b | exact h.x.c | exact h.x.d)
  rw [h.pl] at h2
  have := h1.seq (h2.seq (h3.seq (h4.seq ((rdr_M h.k).seq ((rdr_G h.n).seq (rdr_T h.t))))))
  have e1 : evBy e = [e.r, e.c].flatMap putB ++ (e.past.flatMap putB ++ ([e.op, e.x.k].flatMap putB ++ (txB [e.x.a, e.x.b, e.x.c, e.x.d] ++ (putB e.vk ++ (sigB e.vn ++ (textB e.vt)))))) := by
    simp [evBy, elBy, vlB]
  rw [e1]
  exact this.of_eq fun _ => rfl

theorem rdR_snd (s : RS) : (rdR s).2 = (rdV s).2 := by simp only [rdR]; split <;> rfl
theorem rdr_R {e : Evt} (h : EvtR e) : Rdr (fun s => (rdR s).2) (evBy e) := (rdr_V h).of_eq rdR_snd

theorem rdr_rowsO : ∀ (l : List Evt) (acc : List Evt) (o : Bool), (∀ x ∈ l, EvtR x) → Rdr (fun s => (rowsO l.length s o acc).2.1) (l.flatMap evBy)
  | [], acc, o, _ => Rdr.nil
  | x :: l, acc, o, hl => by
    have hx := rdr_R (hl x (by simp))
    have ih := fun acc o => rdr_rowsO l acc o (fun y hy => hl y (by simp [hy]))
    refine ⟨fun k hk => ?_, fun w => ?_, fun s hs => ?_⟩
    · rw [List.flatMap_cons] at hk ⊢
      show (rowsO (l.length + 1) _ o acc).2.1.2 = true
      rw [rowsO]
      by_cases h : k < (evBy x).length
      · rw [List.take_append_of_le_length (by omega)]
        have := hx.p k h
        rw [if_pos this]; exact this
      · have e : (evBy x ++ l.flatMap evBy).take k = evBy x ++ (l.flatMap evBy).take (k - (evBy x).length) := by rw [List.take_append, List.take_of_length_le (by omega)]
        have hw := hx.w ((l.flatMap evBy).take (k - (evBy x).length))
        rw [e, hw, if_neg (by simp)]
        rw [List.length_append] at hk
        exact (ih _ _).p _ (by omega)
    · rw [List.flatMap_cons, List.append_assoc]
      show (rowsO (l.length + 1) _ o acc).2.1 = _
      have hw := hx.w (l.flatMap evBy ++ w)
      rw [rowsO, hw, if_neg (by simp)]
      exact (ih _ _).w w
    · show (rowsO (l.length + 1) s o acc).2.1.2 = true
      have := hx.b s hs
      rw [rowsO, if_pos this]; exact this

theorem rdr_RowsO (l : List Evt) (hl : l.length ≤ 100000) (h : ∀ x ∈ l, EvtR x) : Rdr (fun s => (rdRowsO s).2.1) (putB l.length ++ l.flatMap evBy) := by
  have hn : nOk (l.length : Int) := by constructor <;> omega
  have hN := rdr_N (most := 100000) hn (by omega)
  have hR := rdr_rowsO l [] false h
  have bad0 : ∀ s : RS, (rN 100000 s).2.2 = true → (rN 100000 s).1 = 0 := fun s hs => by
    unfold rN rdNum at hs ⊢
    split
    · rfl
    · rename_i h1
      rw [if_neg h1] at hs
      split
      · rfl
      · rename_i h2; rw [if_neg h2] at hs; exact absurd hs (by simp)
  refine ⟨fun k hk => ?_, fun w => ?_, fun s hs => ?_⟩
  · by_cases hlt : k < (putB (l.length : Int)).length
    · rw [List.take_append_of_le_length (by omega)]
      have := hN.p k hlt
      simp only [rdRowsO]
      rw [bad0 _ this]
      exact this
    · have e : (putB (l.length : Int) ++ l.flatMap evBy).take k = putB (l.length : Int) ++ (l.flatMap evBy).take (k - (putB (l.length : Int)).length) := by rw [List.take_append, List.take_of_length_le (by omega)]
      rw [e]
      simp only [rdRowsO]
      rw [fwd_N hn (by omega)]
      simp only [Int.toNat_natCast]
      rw [List.length_append] at hk
      exact hR.p _ (by omega)
  · simp only [rdRowsO]
    rw [List.append_assoc, fwd_N hn (by omega)]
    simp only [Int.toNat_natCast]
    exact hR.w w
  · simp only [rdRowsO]
    have := hN.b s hs
    rw [bad0 _ this]
    exact this

theorem parse_cut {kv : List Int} {I : List Itm} {E : List Evt} (hf : SnFit kv I E) (h : rightB kv I E = true) {k : Nat} (hk : k < (snapBy kv I E).length) : pCode ((snapBy kv I E).take k) = 2 := by
  obtain ⟨h1, h2, h3⟩ := right_parts h
  have hi := itm_mem h2
  have r1 := rdr_Ns kv (vecB_rng h1)
  rw [hf.k] at r1
  have r2 := rdr_rows (f := rdI) (enc := itemBy) I hf.il fun p hp => rdr_I (item_R (hi p hp) (hf.i p hp).1 (hf.i p hp).2.1 (hf.i p hp).2.2)
  have r3 := rdr_RowsO E hf.el fun e he => event_R (h3 e he).1 (hf.e e he)
  have r := r1.seq (r2.seq r3)
  have e : kv.flatMap putB ++ (putB I.length ++ I.flatMap itemBy ++ (putB E.length ++ E.flatMap evBy)) = snapBy kv I E := by simp [snapBy]
  rw [e] at r
  have := r.p k hk
  have hb : (pV ((snapBy kv I E).take k)).2.1.2 = true := this
  unfold pCode
  rw [if_pos (by rw [hb]; rfl)]

theorem parse_more {kv : List Int} {I : List Itm} {E : List Evt} (hf : SnFit kv I E) (h : rightB kv I E = true) {w : List Int} (hw : w ≠ []) : pCode (snapBy kv I E ++ w) = 2 := by
  obtain ⟨_, _, c⟩ := parse_by hf h w
  unfold pCode
  rw [c, if_pos]
  simp [hw]
end Go.Proofs.YthbhfipgdinihaaDoor
