/- Own work: the shadow machine and what it shows, part Lv. -/
import Derived.Test.YthmplnbogdfajaaGreatDoorCo
set_option linter.all false
namespace Go.Proofs.YthmplnbogdfajaaGreatDoor
open Go.Sh
set_option maxHeartbeats 4000000
set_option maxRecDepth 100000
def knowsR (v : List Int) (r c : Int) : Bool := decide (c ≤ at16 v r)
def undoes (x : El) (y a : Evt) : Bool := (decide (y.x = x) && !decide (y.op = 1)) && (!decide (y.r = a.r ∧ y.c = a.c) && knowsR y.past a.r a.c)
def liveB (R : List Evt) (x : El) (a : Evt) : Bool := (decide (a.x = x) && decide (a.op = 1 ∨ a.op = 3)) && !R.any fun y => undoes x y a
def live (R : List Evt) (x : El) : List Evt := R.filter (liveB R x)
theorem causl_up : ∀ {l : List Evt} {v : List Int}, v.length = 16 → Causl v l → (∀ k : Int, 0 ≤ k → at16 v k ≤ at16 (setAll v l) k) ∧ ∀ y ∈ l, evB y = true ∧ at16 v y.r < y.c ∧ y.c ≤ at16 (setAll v l) y.r ∧ ∀ k : Int, 0 ≤ k → k < 16 → at16 y.past k ≤ at16 (setAll v l) k
  | [], v, _, _ => ⟨fun k _ => Int.le_refl _, fun y h => by cases h⟩
  | e :: l, v, hv, hc => by
    obtain ⟨hf, hc⟩ := hc
    obtain ⟨hb, ha, hp⟩ := fits_iff hf
    obtain ⟨r0, r1, c0, c1⟩ := evB_dot hb
    have hat := at_set hv (c := e.c) r0 r1
    obtain ⟨h1, h2⟩ := causl_up (v := setV v e) (by simp [setV, hv]) hc
    have up1 : ∀ k : Int, 0 ≤ k → at16 v k ≤ at16 (setV v e) k := fun k hk => by
      unfold setV; rw [hat k hk]; split
      · rename_i e1; rw [e1]; omega
      · exact Int.le_refl _
    refine ⟨fun k hk => Int.le_trans (up1 k hk) (h1 k hk), fun y hy => ?_⟩
    rcases List.mem_cons.1 hy with rfl | hy
    · refine ⟨hb, by omega, ?_, fun k hk hk2 => ?_⟩
      · have := h1 y.r r0
        unfold setV at this
        rw [hat y.r r0, if_pos rfl] at this
        exact this
      · have h3 := hp k.toNat (by omega)
        rw [Int.toNat_of_nonneg hk] at h3
        exact Int.le_trans h3 (Int.le_trans (up1 k hk) (h1 k hk))
    · obtain ⟨q1, q2, q3, q4⟩ := h2 y hy
      have := up1 y.r (evB_dot q1).1
      exact ⟨q1, by omega, q3, q4⟩
theorem putE_perm (L : List Ent) (x : Ent) : (putE L x).Perm (L ++ [x]) := by
  unfold putE
  refine List.perm_middle.trans ?_
  refine (List.Perm.cons x (List.filter_append_perm (fun y => decide (ordD y x < 0)) L)).trans ?_
  exact (List.perm_append_singleton x L).symm
theorem map_filter_map {α β : Type} (f : α → β) (p : β → Bool) (l : List α) : (l.map f).filter p = (l.filter fun a => p (f a)).map f := by
  rw [List.filter_map]; rfl
theorem live_step {l : List Evt} {e : Evt} (hl : Causl zero16 l) (hf : fitsB (setAll zero16 l) e = true) (x : El) :
    live (l ++ [e]) x = (if x = e.x then ((if e.op = 1 then live l x else (live l x).filter fun a => !knowsB e.past a.r a.c) ++ if e.op = 1 ∨ e.op = 3 then [e] else []) else live l x) := by
  obtain ⟨_, hu⟩ := causl_up (v := zero16) rfl hl
  obtain ⟨hb, ha, hp⟩ := fits_iff hf
  obtain ⟨r0, r1, c0, c1⟩ := evB_dot hb
  have hB : ∀ a, liveB (l ++ [e]) x a = (liveB l x a && !undoes x e a) := fun a => by
    unfold liveB
    rw [List.any_append]
    simp only [List.any_cons, List.any_nil, Bool.or_false, Bool.not_or, Bool.and_assoc]
  unfold live
  rw [List.filter_append]
  by_cases hx : x = e.x
  · rw [if_pos hx]
    have he : [e].filter (liveB (l ++ [e]) x) = if e.op = 1 ∨ e.op = 3 then [e] else [] := by
      have hn : undoes x e e = false := by simp [undoes]
      have hany : (l.any fun y => undoes x y e) = false := by
        rw [List.any_eq_false]
        intro y hy
        obtain ⟨_, _, _, q4⟩ := hu y hy
        have := q4 e.r r0 r1
        have hk : knowsR y.past e.r e.c = false := by unfold knowsR; exact decide_eq_false (by omega)
        simp [undoes, hk]
      have : liveB (l ++ [e]) x e = decide (e.op = 1 ∨ e.op = 3) := by
        rw [hB, hn]; unfold liveB; rw [hany, hx]; simp
      rw [List.filter_cons, this]
      by_cases ho : e.op = 1 ∨ e.op = 3
      · rw [if_pos ho, if_pos (decide_eq_true ho)]; rfl
      · rw [if_neg ho, if_neg (by simpa using ho)]; rfl
    rw [he]
    congr 1
    by_cases ho : e.op = 1
    · rw [if_pos ho]
      apply List.filter_congr
      intro a _
      rw [hB]; simp [undoes, ho]
    · rw [if_neg ho, List.filter_filter]
      apply List.filter_congr
      intro a hm
      obtain ⟨q1, _, q3, _⟩ := hu a hm
      have hd := evB_dot q1
      have hne : ¬ (e.r = a.r ∧ e.c = a.c) := fun h => by
        rw [← h.1, ha] at q3; omega
      have hk : knowsB e.past a.r a.c = knowsR e.past a.r a.c := by
        have : dotB a.r a.c = true := by simp only [dotB, decide_eq_true_eq]; exact hd
        unfold knowsB knowsR; rw [this, Bool.true_and]
      rw [hB, hk, Bool.and_comm]
      unfold undoes
      rw [hx, decide_eq_false ho, decide_eq_false hne]
      simp
  · rw [if_neg hx]
    have h0 : ∀ a, undoes x e a = false := fun a => by
      unfold undoes; rw [decide_eq_false (fun h => hx h.symm)]; rfl
    have he : [e].filter (liveB (l ++ [e]) x) = [] := by
      have : liveB (l ++ [e]) x e = false := by
        rw [hB]; unfold liveB; rw [decide_eq_false (fun h => hx h.symm)]; rfl
      rw [List.filter_cons, this]; rfl
    rw [he, List.append_nil]
    apply List.filter_congr
    intro a _
    rw [hB, h0]; simp
theorem live_do {R : List Evt} (h : Row R) (x : El) : ∀ i ≤ R.length, (getS (doAll (R.take i)) x).Perm ((live (R.take i) x).map evEnt)
  | 0, _ => by rw [List.take_zero]; exact .refl _
  | i + 1, hi => by
    have ih := live_do h x i (by omega)
    obtain ⟨e, he⟩ : ∃ e, R[i]? = some e := ⟨R[i], List.getElem?_eq_getElem (by omega)⟩
    obtain ⟨hg, hf, hd⟩ := h.at_ he
    have ht : R.take (i + 1) = R.take i ++ [e] := by rw [List.take_add_one, he]; rfl
    have hc : Causl zero16 (R.take i) := by
      have := h.causl
      rw [← List.take_append_drop i R] at this
      exact (causl_app.1 this).1
    rw [hd, ht, live_step hc hf]
    unfold doF
    rw [getS_put]
    by_cases hx : x = e.x
    · rw [if_pos hx, if_pos hx, ← hx]
      have hcut : (cutE e (getS (doAll (R.take i)) x)).Perm ((if e.op = 1 then live (R.take i) x else (live (R.take i) x).filter fun a => !knowsB e.past a.r a.c).map evEnt) := by
        unfold cutE
        by_cases ho : e.op = 1
        · rw [if_pos ho, if_pos ho]; exact ih
        · rw [if_neg ho, if_neg ho]
          have := ih.filter fun y => !knowsB e.past y.r y.c
          rw [map_filter_map] at this
          exact this
      unfold doL
      by_cases ho : e.op = 1 ∨ e.op = 3
      · rw [if_pos ho, if_pos ho, List.map_append]
        exact (putE_perm _ _).trans (hcut.append_right _)
      · rw [if_neg ho, if_neg ho, List.append_nil]
        exact hcut
    · rw [if_neg hx, if_neg hx]; exact ih
theorem live_all {R : List Evt} (h : Row R) (x : El) : (getS (doAll R) x).Perm ((live R x).map evEnt) := by
  have := live_do h x R.length (Nat.le_refl _)
  rwa [List.take_length] at this
end Go.Proofs.YthmplnbogdfajaaGreatDoor
namespace Go.Proofs.YthmplnbogdfajaaGreatDoor
open Go.Sh
set_option maxHeartbeats 4000000
set_option maxRecDepth 100000
def putQ (A : List Stp) (t : Nat) : Nat → List Stp
  | 0 => []
  | i + 1 => match A[(i + t) % A.length]? with
    | some p => putS (putQ A t i) p.1 p.2
    | none => putQ A t i
theorem putQ_ok {S A : List Stp} (hp : Apart S) (hA : A.Perm S) (t : Nat) : ∀ i, (∀ x, getS (putQ A t i) x = [] ∨ getS (putQ A t i) x = getS S x) ∧ (∀ j < i, ∀ p, A[(j + t) % A.length]? = some p → getS (putQ A t i) p.1 = p.2)
  | 0 => ⟨fun x => .inl rfl, fun j hj => by omega⟩
  | i + 1 => by
    obtain ⟨h1, h2⟩ := putQ_ok hp hA t i
    have hs : ∀ p, p ∈ A → getS S p.1 = p.2 := fun p hm => getS_mem hp (hA.mem_iff.1 hm)
    rw [putQ]
    split
    · rename_i p hpi
      have hpm := List.mem_of_getElem? hpi
      refine ⟨fun x => ?_, fun j hj q hq => ?_⟩
      · rw [getS_put]
        split
        · rename_i e
          exact .inr (by rw [e, hs p hpm])
        · exact h1 x
      · rw [getS_put]
        split
        · rename_i e
          rw [← hs p hpm, ← e, hs q (List.mem_of_getElem? hq)]
        · rename_i e
          rcases Nat.lt_or_ge j i with hji | hji
          · exact h2 j hji q hq
          · have : j = i := by omega
            rw [this, hpi] at hq
            injection hq with hq
            exact absurd (by rw [hq]) e
    · rename_i hpi
      refine ⟨h1, fun j hj q hq => ?_⟩
      rcases Nat.lt_or_ge j i with hji | hji
      · exact h2 j hji q hq
      · have : j = i := by omega
        rw [this, hpi] at hq; cases hq
theorem turn_all (n t a : Nat) (ha : a < n) : ∃ j < n, (j + t) % n = a := by
  have h0 : 0 < n := by omega
  refine ⟨(a + (n - t % n)) % n, Nat.mod_lt _ h0, ?_⟩
  have hr := Nat.mod_lt t h0
  rw [Nat.mod_add_mod]
  have e : t = n * (t / n) + t % n := (Nat.div_add_mod t n).symm
  generalize t / n = q at e
  generalize t % n = r at e hr
  rw [e, show a + (n - r) + (n * q + r) = (a + n) + n * q by omega, Nat.add_mul_mod_self_left, Nat.add_mod_right]
  exact Nat.mod_eq_of_lt ha
theorem putQ_same {S A : List Stp} (hp : Apart S) (hne : ∀ p ∈ S, p.2 ≠ []) (hA : A.Perm S) (t : Nat) (x : El) : getS (putQ A t A.length) x = getS S x := by
  obtain ⟨h1, h2⟩ := putQ_ok hp hA t A.length
  by_cases h : getS S x = []
  · rcases h1 x with h3 | h3
    · rw [h3, h]
    · exact h3
  · have hm := hA.mem_iff.2 (mem_getS h)
    obtain ⟨a, ha, hae⟩ := List.mem_iff_getElem.1 hm
    obtain ⟨j, hj, hje⟩ := turn_all A.length t a ha
    exact h2 j hj (x, getS S x) (by rw [hje, List.getElem?_eq_getElem ha, hae])
theorem putQ_len (A : List Stp) (t : Nat) : ∀ i, (putQ A t i).length ≤ i
  | 0 => Nat.le_refl _
  | i + 1 => by
    have := putQ_len A t i
    rw [putQ]
    split
    · exact Nat.le_trans (putS_len _ _ _) (Nat.succ_le_succ this)
    · omega
end Go.Proofs.YthmplnbogdfajaaGreatDoor
