/- Own work: the shadow machine and what it shows, part Lv. -/
import Derived.Test.YthmplnbogdfajaaGreatDoorCo
set_option linter.all false

namespace Go.Proofs.YthmplnbogdfajaaGreatDoor
open Go.Sh
set_option maxHeartbeats 4000000
set_option maxRecDepth 100000

/-! ## What is left of a row's events -/

def knowsR (v : List Int) (r c : Int) : Bool := decide (c ≤ at16 v r)
def undoes (x : El) (y a : Evt) : Bool := (decide (y.x = x) && !decide (y.op = 1)) && (!decide (y.r = a.r ∧ y.c = a.c) && knowsR y.past a.r a.c)
def liveB (R : List Evt) (x : El) (a : Evt) : Bool := (decide (a.x = x) && decide (a.op = 1 ∨ a.op = 3)) && !R.any fun y => undoes x y a
def live (R : List Evt) (x : El) : List Evt := R.filter (liveB R x)

theorem causl_up : ∀ {l : List Evt} {v : List Int}, v.length = 16 → Causl v l → (∀ k : Int, 0 ≤ k → at16 v k ≤ at16 (setAll v l) k) ∧ ∀ y ∈ l, evB y = true ∧ at16 v y.r < y.c ∧ y.c ≤ at16 (setAll v l) y.r ∧ ∀ k : Int, 0 ≤ k → k < 16 → at16 y.past k ≤ at16 (setAll v l) k
  | [], v, _, _ => ⟨fun k _ => Int.le_refl _, fun y h => by cases h⟩
  | e :: l, v, hv, hc => by
    obtain ⟨hf, hc⟩ := hc
    obtain ⟨hb, ha, hp⟩ := fits_iff hf
    obtain ⟨r0, r1, c0, c1⟩ := evB_dot hb
    have hat := at_set hv (c := e.c) r0 r1
    obtain ⟨h1, h2⟩ := causl_up (v := setV v e) (by simp [setV, hv]) hc
    have up1 : ∀ k : Int, 0 ≤ k → at16 v k ≤ at16 (setV v e) k := fun k hk => by
      unfold setV; rw [hat k hk]; split
      · rename_i e1; rw [e1]; omega
      · exact Int.le_refl _
    refine ⟨fun k hk => Int.le_trans (up1 k hk) (h1 k hk), fun y hy => ?_⟩
    rcases List.mem_cons.1 hy with rfl | hy
    · refine ⟨hb, by omega, ?_, fun k hk hk2 => ?_⟩
      · have := h1 y.r r0
        unfold setV at this
        rw [hat y.r r0, if_pos rfl] at this
        exact this
      · have h3 := hp k.toNat (by omega)
        rw [Int.toNat_of_nonneg hk] at h3
        exact Int.le_trans h3 (Int.le_trans (up1 k hk) (h1 k hk))
    · obtain ⟨q1, q2, q3, q4⟩ := h2 y hy
      have := up1 y.r (evB_dot q1).1
      exact ⟨q1, by omega, q3, q4⟩

theorem putE_perm (L : List Ent) (x : Ent) : (putE L x).Perm (L ++ [x]) := by
  unfold putE
  refine List.perm_middle.trans ?_
  refine (List.Perm.cons x (List.filter_append_perm (fun y => decide (ordD y x < 0)) L)).trans ?_
  exact (List.perm_append_singleton x L).symm

theorem map_filter_map {α β : Type} (f : α → β) (p : β → Bool) (l : List α) : (l.map f).filter p = (l.filter fun a => p (f a)).map f := by
  rw [List.filter_map]; rfl

theorem live_step {l : List Evt} {e : Evt} (hl : Causl zero16 l) (hf : fitsB (setAll zero16 l) e = true) (x : El) :
    live (l ++ [e]) x = (if x = e.x then ((if e.op = 1 then live l x else (live l x).filter fun a => !knowsB e.past a.r a.c) ++ if e.op = 1 ∨ e.op = 3 then [e] else []) else live l x) := by
  obtain ⟨_, hu⟩ := causl_up (v := zero16) rfl hl
  obtain ⟨hb, ha, hp⟩ := fits_iff hf
  obtain ⟨r0, r1, c0, c1⟩ := evB_dot hb
  have hB : ∀ a, liveB (l ++ [e]) x a = (liveB l x a && !undoes x e a) := fun a => by
    unfold liveB
    rw [List.any_append]
    simp only [List.any_cons, List.any_nil, Bool.or_false, Bool.not_or, Bool.and_assoc]
  unfold live
  rw [List.filter_append]
  by_cases hx : x = e.x
  · rw [if_pos hx]
    have he : [e].filter (liveB (l ++ [e]) x) = if e.op = 1 ∨ e.op = 3 then [e] else [] := by
      have hn : undoes x e e = false := by simp [undoes]
      have hany : (l.any fun y => undoes x y e) = false := by
        rw [List.any_eq_false]
        intro y hy
        obtain ⟨_, _, _, q4⟩ := hu y hy
        have := q4 e.r r0 r1
        have hk : knowsR y.past e.r e.c = false := by unfold knowsR; exact decide_eq_false (by omega)
        simp [undoes, hk]
      have : liveB (l ++ [e]) x e = decide (e.op = 1 ∨ e.op = 3) := by
        rw [hB, hn]; unfold liveB; rw [hany, hx]; simp
      rw [List.filter_cons, this]
      by_cases ho : e.op = 1 ∨ e.op = 3
      · rw [if_pos ho, if_pos (decide_eq_true ho)]; rfl
      · rw [if_neg ho, if_neg (by simpa using ho)]; rfl
    rw [he]
    congr 1
    by_cases ho : e.op = 1
    · rw [if_pos ho]
      apply List.filter_congr
      intro a _
      rw [hB]; simp [undoes, ho]
    · rw [if_neg ho, List.filter_filter]
      apply List.filter_congr
      intro a hm
      obtain ⟨q1, _, q3, _⟩ := hu a hm
      have hd := evB_dot q1
      have hne : ¬ (e.r = a.r ∧ e.c = a.c) := fun h => by
        rw [← h.1, ha] at q3; omega
      have hk : knowsB e.past a.r a.c = knowsR e.past a.r a.c := by
        have : dotB a.r a.c = true := by simp only [dotB, decide_eq_true_eq]; exact hd
        unfold knowsB knowsR; rw [this, Bool.true_and]
      rw [hB, hk, Bool.and_comm]
      unfold undoes
      rw [hx, decide_eq_false ho, decide_eq_false hne]
      simp
  · rw [if_neg hx]
    have h0 : ∀ a, undoes x e a = false := fun a => by
      unfold undoes; rw [decide_eq_false (fun h => hx h.symm)]; rfl
    have he : [e].filter (liveB (l ++ [e]) x) = [] := by
      have : liveB (l ++ [e]) x e = false := by
        rw [hB]; unfold liveB; rw [decide_eq_false (fun h => hx h.symm)]; rfl
      rw [List.filter_cons, this]; rfl
    rw [he, List.append_nil]
    apply List.filter_congr
    intro a _
    rw [hB, h0]; simp

theorem live_do {R : List Evt} (h : Row R) (x : El) : ∀ i ≤ R.length, (getS (doAll (R.take i)) x).Perm ((live (R.take i) x).map evEnt)
  | 0, _ => by rw [List.take_zero]; exact .refl _
  | i + 1, hi => by
    have ih := live_do h x i (by omega)
    obtain ⟨e, he⟩ : ∃ e, R[i]? = some e := ⟨R[i], List.getElem?_eq_getElem (by omega)⟩
    obtain ⟨hg, hf, hd⟩ := h.at_ he
    have ht : R.take (i + 1) = R.take i ++ [e] := by rw [List.take_add_one, he]; rfl
    have hc : Causl zero16 (R.take i) := by
      have := h.causl
      rw [← List.take_append_drop i R] at this
      exact (causl_app.1 this).1
    rw [hd, ht, live_step hc hf]
    unfold doF
    rw [getS_put]
    by_cases hx : x = e.x
    · rw [if_pos hx, if_pos hx, ← hx]
      have hcut : (cutE e (getS (doAll (R.take i)) x)).Perm ((if e.op = 1 then live (R.take i) x else (live (R.take i) x).filter fun a => !knowsB e.past a.r a.c).map evEnt) := by
        unfold cutE
        by_cases ho : e.op = 1
        · rw [if_pos ho, if_pos ho]; exact ih
        · rw [if_neg ho, if_neg ho]
          have := ih.filter fun y => !knowsB e.past y.r y.c
          rw [map_filter_map] at this
          exact this
      unfold doL
      by_cases ho : e.op = 1 ∨ e.op = 3
      · rw [if_pos ho, if_pos ho, List.map_append]
        exact (putE_perm _ _).trans (hcut.append_right _)
      · rw [if_neg ho, if_neg ho, List.append_nil]
        exact hcut
    · rw [if_neg hx, if_neg hx]; exact ih

theorem live_all {R : List Evt} (h : Row R) (x : El) : (getS (doAll R) x).Perm ((live R x).map evEnt) := by
  have := live_do h x R.length (Nat.le_refl _)
  rwa [List.take_length] at this

theorem dots_eq {L L' : List Ent} (h : Dots L) (h' : Dots L') (hp : L.Perm L') : L = L' :=
  List.Perm.eq_of_pairwise (le := fun a b => ordD a b < 0) (fun a b _ _ h1 h2 => by
    have hs : ordD b a = - ordD a b := by
      rw [ordD_eq, ordD_eq]; exact (thenC_ok cmpI_ok cmpI_ok).swap _ _
    omega) h h' hp

theorem live_perm {R R' : List Evt} (h : R.Perm R') (x : El) : (live R x).Perm (live R' x) := by
  unfold live
  have : liveB R x = liveB R' x := by
    funext a
    unfold liveB
    rw [h.any_eq]
  rw [this]
  exact h.filter _

/-- The order is free. -/
theorem order_free {R R' : List Evt} (h : Row R) (h' : Row R') (hp : R.Perm R') (x : El) : getS (doAll R) x = getS (doAll R') x :=
  dots_eq (h.good.dots x) (h'.good.dots x) ((live_all h x).trans (((live_perm hp x).map _).trans (live_all h' x).symm))

theorem causl_dots : ∀ {l : List Evt} {v : List Int}, v.length = 16 → Causl v l → l.Pairwise fun a b => ¬ (a.r = b.r ∧ a.c = b.c)
  | [], _, _, _ => List.Pairwise.nil
  | e :: l, v, hv, hc => by
    obtain ⟨hf, hc⟩ := hc
    obtain ⟨hb, ha, hp⟩ := fits_iff hf
    obtain ⟨r0, r1, c0, c1⟩ := evB_dot hb
    have hl : (setV v e).length = 16 := by simp [setV, hv]
    refine List.pairwise_cons.2 ⟨fun y hy h => ?_, causl_dots hl hc⟩
    obtain ⟨_, q2, _, _⟩ := (causl_up hl hc).2 y hy
    unfold setV at q2
    rw [at_set hv r0 r1 y.r (by omega), if_pos h.1.symm] at q2
    omega
end Go.Proofs.YthmplnbogdfajaaGreatDoor

namespace Go.Proofs.YthmplnbogdfajaaGreatDoor
open Go.Sh
set_option maxHeartbeats 4000000
set_option maxRecDepth 100000

/-! ## What is left, as the document walks it -/

theorem ba_eq (a b : List UInt8) : (mkB a == mkB b) = decide (a = b) := by
  by_cases h : a = b
  · subst h; rw [ba_self]; simp
  · rw [decide_eq_false h, Bool.eq_false_iff]
    intro e
    have : mkB a = mkB b := by
      rcases ha : mkB a with ⟨x⟩
      rcases hb : mkB b with ⟨y⟩
      rw [ha, hb] at e
      have e : (x == y) = true := e
      rw [eq_of_beq e]
    have := congrArg (fun b : ByteArray => b.data.toList) this
    simp only [mkB_data] at this
    exact h this

theorem leaves_el (x y : El) : leavesEq [.int .i64, .str, .str, .str, .str] (elC x) (elC y) = some (decide (x = y)) := by
  have : decide (x = y) = (decide (x.k = y.k) && (decide (x.a = y.a) && (decide (x.b = y.b) && (decide (x.c = y.c) && decide (x.d = y.d))))) := by
    rw [Bool.eq_iff_iff]
    simp only [Bool.and_eq_true, decide_eq_true_eq]
    constructor
    · intro h; subst h; exact ⟨rfl, rfl, rfl, rfl, rfl⟩
    · rintro ⟨h1, h2, h3, h4, h5⟩
      cases x; cases y; simp_all
  rw [this]
  by_cases h1 : x.k = y.k <;> by_cases h2 : x.a = y.a <;> by_cases h3 : x.b = y.b <;> by_cases h4 : x.c = y.c <;> by_cases h5 : x.d = y.d <;> simp [leavesEq, leafEq, elC, ba_eq, h1, h2, h3, h4, h5]
theorem leaves_dot (r c r' c' : Int) : leavesEq [.int .i64, .int .i64] [.int .i64 r, .int .i64 c] [.int .i64 r', .int .i64 c'] = some (decide (r = r' ∧ c = c')) := by
  by_cases h1 : r = r' <;> by_cases h2 : c = c' <;> simp [leavesEq, leafEq, h1, h2]
theorem leaves_val (k n : Int) (t : List UInt8) (k' n' : Int) (t' : List UInt8) : leavesEq [.int .i64, .int .i64, .str] [.int .i64 k, .int .i64 n, .str (mkB t)] [.int .i64 k', .int .i64 n', .str (mkB t')] = some (decide (k = k' ∧ n = n' ∧ t = t')) := by
  by_cases h1 : k = k' <;> by_cases h2 : n = n' <;> by_cases h3 : t = t' <;> simp [leavesEq, leafEq, ba_eq, h1, h2, h3]

theorem ref_knows (v : List Int) (hv : v.length = 16) (r c : Int) (h0 : 0 ≤ r) (h1 : r < 16) (H : GH) : ecall T f_hedgerowref07_knows [.agg (v.map intG), .agg [.int .i64 r, .int .i64 c]] H = some (.bool (knowsR v r c), H) := by
  have hi := gIx16 h0 h1
  have ha := vec_atN hv (k := r.toNat) (by omega)
  have hat' : at16 v ((r.toNat : Nat) : Int) = at16 v r := by simp only [at16, Int.toNat_natCast]
  rw [hat'] at ha
  apply optW.eq
  rw [ecall_0 T_hedgerowref07_knows rfl (by simp [F_hedgerowref07_knows]), wp_fin1]
  simp [F_hedgerowref07_knows, b_hedgerowref07_knows, hi, ha, knowsR]

structure EvOk (e : Evt) : Prop where
  fit : EvFit e
  ok : evB e = true
theorem EvOk.dot {e : Evt} (h : EvOk e) : 0 ≤ e.r ∧ e.r < 16 ∧ 1 ≤ e.c ∧ e.c ≤ 1048576 := evB_dot h.ok

/-- Does one of a row undo an event? -/
theorem live_in {R : List Evt} (hR : R.length ≤ 1000) (hok : ∀ e ∈ R, EvOk e) (vr : GV) (hvr : Elems 27 vr (R.map evG)) (x : El) (a : Evt) (ha : EvOk a) (g3 g7 : Nat) (l0 : List GV) (g0 : Nat) (H0 : GH) (K : GExit × St → Prop)
    (h31 : lget l0 31 = vr) (h32 : lget l0 32 = .int .i64 R.length) (h33 : lget l0 33 = .int .i64 0) (h3 : lget l0 3 = .lbox g3 (elC x)) (h7 : lget l0 7 = .lbox g7 (evC a)) (h8 : lget l0 8 = .bool true)
    (he : ∀ l g, lget l 3 = .lbox g3 (elC x) → lget l 7 = .lbox g7 (evC a) → lget l 8 = .bool (!R.any fun y => undoes x y a) → Fr L0_hedgerowref07_Live l0 l → K (.exit 2, ⟨⟨l, g⟩, H0⟩)) :
    optW (erun T (.loop L0_hedgerowref07_Live) ⟨⟨l0, g0⟩, H0⟩) K := by
  refine range_loop (T := T) (n := R.length) (A := Unit) (fun i _ => [(3, .lbox g3 (elC x)), (7, .lbox g7 (evC a)), (8, .bool (!(R.take i).any fun y => undoes x y a))]) (fun i _ _ H' => H' = H0) (c := 34) (b := 2) (I := 33) (N := 32) (d := 60) rfl (by omega) (by decide) ⟨rfl, rfl⟩ (by simp) ?_ ?_ 0 () _ _ H0 (by omega) rfl (by simp [h3, h7, h8]) (.refl _ _ _) h33 h32
  · intro i u l g H' hi hH hh hf hI
    subst hH
    have h31' := hf.get 31 rfl h31 (by simp [hvr.boxy])
    obtain ⟨lt, ix, opt, get, ⟨t, sv⟩, wr_, mem⟩ := at_ok (e := evG) hvr hi (by omega)
    generalize R[i]'hi = y at opt get mem
    obtain ⟨hfy, hby⟩ := hok y mem
    have l1 := ev_len hfy.past
    have l4 : List.take 27 (evC y) = evC y := List.take_of_length_le (by rw [l1]; exact Nat.le_refl _)
    have lo := ev_one hfy.past
    have sp := ev_set hfy.past
    have l6 := ev_el hfy.past
    have l5 := ev_18 hfy.past
    have l5' := ev_18' hfy.past
    have l3 := ev_dot y
    have l2 := ev_past hfy.past
    have a1 := ev_len ha.fit.past
    have a3 := ev_dot a
    have le := leaves_el y.x x
    have ld := leaves_dot y.r y.c a.r a.c
    have hkn := fun H => ref_knows y.past hfy.past a.r a.c ha.dot.1 ha.dot.2.1 H
    simp only [Holds_cons, Holds_nil, and_true] at hh
    obtain ⟨hh3, hh7, hh8⟩ := hh
    have hs : (!(R.take (i + 1)).any fun y => undoes x y a) = ((!(R.take i).any fun y => undoes x y a) && !undoes x y a) := by
      rw [List.take_add_one, opt, List.any_append]; simp
    rw [hs]
    generalize (!(R.take i).any fun y => undoes x y a) = b8 at hh8
    have hlx : (elC x).length = 5 := rfl
    have htx : List.take 5 (elC x) = elC x := rfl
    rw [sv] at h31'
    unfold undoes
    by_cases c1 : y.x = x
    · rw [c1] at l6 le
      by_cases c2 : y.op = 1
      · simp [h31', hI, hh3, hh7, hh8, ix, opt, get, sp, l1, l4, lo, l6, l5, l5', le, c1, c2, hlx, htx]
      · by_cases c3 : y.r = a.r ∧ y.c = a.c
        · rw [c3.1, c3.2] at ld
          simp [h31', hI, hh3, hh7, hh8, ix, opt, get, sp, l1, l4, lo, l6, l5, l5', l3, a1, a3, ld, le, c1, c2, c3, hlx, htx]
        · cases hk : knowsR y.past a.r a.c with
          | false =>
            rw [hk] at hkn
            simp [h31', hI, hh3, hh7, hh8, ix, opt, get, sp, l1, l4, lo, l6, l5, l5', l3, l2, a1, a3, ld, le, c1, c2, c3, hkn, hlx, htx]
          | true =>
            rw [hk] at hkn
            simp [h31', hI, hh3, hh7, hh8, ix, opt, get, sp, l1, l4, lo, l6, l5, l5', l3, l2, a1, a3, ld, le, c1, c2, c3, hkn, hlx, htx]
    · simp [h31', hI, hh3, hh7, hh8, ix, opt, get, sp, l1, l4, lo, l6, le, c1, hlx, htx]
  · intro u l g H' hH hh hf
    subst hH
    simp only [Holds_cons, Holds_nil, and_true] at hh
    rw [List.take_length] at hh
    exact he l g hh.1 hh.2.1 hh.2.2 hf

/-- What is left of a row, of an element. -/
theorem live_loop {R : List Evt} (hR : R.length ≤ 1000) (hok : ∀ e ∈ R, EvOk e) (vr : GV) (hvr : Elems 27 vr (R.map evG)) (x : El) (g3 : Nat) (l0 : List GV) (g0 : Nat) (H0 : GH) (hbt : H0.bt ≤ H0.toks.length) (K : GExit × St → Prop)
    (h0 : lget l0 0 = vr) (h11 : lget l0 11 = vr) (h12 : lget l0 12 = .int .i64 R.length) (h13 : lget l0 13 = .int .i64 0) (h3 : lget l0 3 = .lbox g3 (elC x)) (h5 : lget l0 5 = .nilsl)
    (he : ∀ l g H v, lget l 5 = v → Grown 27 H0 .nilsl ((live R x).map evG) H v → Fr L1_hedgerowref07_Live l0 l → K (.exit 0, ⟨⟨l, g⟩, H⟩)) :
    optW (erun T (.loop L1_hedgerowref07_Live) ⟨⟨l0, g0⟩, H0⟩) K := by
  refine range_loop (T := T) (n := R.length) (A := GV) (fun _ s => [(3, .lbox g3 (elC x)), (5, s)]) (fun i s _ H' => Grown 27 H0 .nilsl (((R.take i).filter (liveB R x)).map evG) H' s) (c := 14) (b := 0) (I := 13) (N := 12) (d := 66) rfl (by omega) (by decide) ⟨rfl, rfl⟩ (by simp) ?_ ?_ 0 .nilsl _ _ H0 (by omega) (by simpa using Grown.refl App.nil) (by simp [h3, h5]) (.refl _ _ _) h13 h12
  · intro i s l g H' hi hG hh hf hI
    have h0' := hf.get 0 rfl h0 (by simp [hvr.boxy])
    have h11' := hf.get 11 rfl h11 (by simp [hvr.boxy])
    have hl := hvr.len
    have hu := elemsUnbox hvr
    have hk := hvr.ok
    simp only [List.length_map] at hl
    obtain ⟨lt, ix, opt, get, ⟨t, sv⟩, wr_, mem⟩ := at_ok (e := evG) hvr hi (by omega)
    generalize R[i]'hi = a at opt get mem
    have ha := hok a mem
    have l1 := ev_len ha.fit.past
    have l4 : List.take 27 (evC a) = evC a := List.take_of_length_le (by rw [l1]; exact Nat.le_refl _)
    have lo := ev_one ha.fit.past
    have sp := ev_set ha.fit.past
    have l6 := ev_el ha.fit.past
    have l5 := ev_18 ha.fit.past
    have l5' := ev_18' ha.fit.past
    have le := leaves_el a.x x
    have hlx : (elC x).length = 5 := rfl
    have htx : List.take 5 (elC x) = elC x := rfl
    have ht : R.take (i + 1) = R.take i ++ [a] := by rw [List.take_add_one, opt]; rfl
    rw [ht, List.filter_append]
    have hfl : ((R.take i).filter (liveB R x)).length ≤ 1000 := Nat.le_trans (List.length_filter_le _ _) (by rw [List.length_take]; omega)
    generalize (R.take i).filter (liveB R x) = F at hG hfl
    simp only [Holds_cons, Holds_nil, and_true] at hh
    obtain ⟨hh3, hh5⟩ := hh
    have h11s := h11'
    rw [sv] at h11'
    have hsk := hG.ok
    have hse := hG.app.elems
    have hsb := hse.boxy
    by_cases c1 : a.x = x
    · rw [c1] at l6 le
      by_cases c2 : a.op = 1 ∨ a.op = 3
      · have hlv : liveB R x a = !R.any fun y => undoes x y a := by unfold liveB; rw [c1, decide_eq_true c2]; simp
        have key : ∀ (l1' : List GV), lget l1' 31 = vr → lget l1' 32 = .int .i64 R.length → lget l1' 33 = .int .i64 0 → lget l1' 3 = .lbox g3 (elC x) → lget l1' 7 = .lbox g (evC a) → lget l1' 8 = .bool true → lget l1' 5 = s →
            optW (erun T (.loop L0_hedgerowref07_Live) ⟨⟨l1', g + 1⟩, H'⟩) fun r => ∃ l2 g2, r = (.exit 2, ⟨⟨l2, g2⟩, H'⟩) ∧ lget l2 3 = .lbox g3 (elC x) ∧ lget l2 7 = .lbox g (evC a) ∧ lget l2 8 = .bool (liveB R x a) ∧ lget l2 5 = s := fun l1' k31 k32 k33 k3 k7 k8 k5 => by
          refine live_in hR hok vr hvr x a ha g3 g l1' (g + 1) H' _ k31 k32 k33 k3 k7 k8 ?_
          intro l2 g2 j3 j7 j8 hf2
          exact ⟨l2, g2, rfl, j3, j7, by rw [hlv]; exact j8, hf2.get 5 rfl k5 (by simp [hsb])⟩
        rcases c2 with c2 | c2
        all_goals
          simp [h11', h0', hl, hu, hk, hI, hh3, hh5, ix, opt, get, sp, l1, l4, lo, l6, l5, l5', le, c1, c2, hlx, htx]
          rw [wp_blockK, wp_seqK, wp_blockK]
          refine optW.mono (key _ (by simp [hu]) (by simp) (by simp) (by simp [hh3]) (by simp) (by simp) (by simp [hh5])) ?_
          rintro _ ⟨l2, g2, rfl, j3, j7, j8, j5⟩
          cases hb : liveB R x a with
          | false =>
            rw [hb] at j8
            simp [j3, j5, j8]
            have hf0 : [a].filter (liveB R x) = [] := by rw [List.filter_cons, hb]; rfl
            rw [hf0, List.map_nil, List.append_nil]
            exact fun _ => hG
          | true =>
            rw [hb] at j8
            obtain ⟨s', H2, a1, G1⟩ := append_grown (ty := 38) (bytes := 256) (ys := [evG a]) (x := .sl 27 [evG a] .exact) hG.app (by simp [gNews]) (hG.step.btle hbt) (by simp only [List.length_singleton, List.length_map, room]; omega) (by simp only [List.length_singleton, List.length_map, maxLen]; omega)
            have sk' := G1.ok
            have hG2 := hG.trans G1
            simp [j3, j5, j7, j8, l1, l4, lo, gSetAll, gFill, a1, hsk, sk']
            have hf1 : [a].filter (liveB R x) = [a] := by rw [List.filter_cons, hb]; rfl
            rw [hf1]
            exact fun _ => hG2
      · have c3 : ¬ a.op = 1 := fun h => c2 (.inl h)
        have c4 : ¬ a.op = 3 := fun h => c2 (.inr h)
        have hn : liveB R x a = false := by unfold liveB; rw [decide_eq_false c2]; simp
        simp [h11', hI, hh3, hh5, ix, opt, get, sp, l1, l4, lo, l6, l5, l5', le, c1, c3, c4, hlx, htx, hn]
        exact fun _ => hG
    · have hn : liveB R x a = false := by unfold liveB; rw [decide_eq_false c1]; rfl
      simp [h11', hI, hh3, hh5, ix, opt, get, sp, l1, l4, lo, l6, le, c1, hlx, htx, hn]
      exact fun _ => hG
  · intro s l g H' hG hh hf
    simp only [Holds_cons, Holds_nil, and_true] at hh
    rw [List.take_length] at hG
    exact he l g H' s hh.2 hG hf

theorem ref_Live {R : List Evt} (hR : R.length ≤ 1000) (hok : ∀ e ∈ R, EvOk e) (vr : GV) (hvr : Elems 27 vr (R.map evG)) (x : El) (H : GH) (hbt : H.bt ≤ H.toks.length) :
    ∃ v H', ecall T f_hedgerowref07_Live [vr, .agg (elC x)] H = some (v, H') ∧ Grown 27 H .nilsl ((live R x).map evG) H' v := by
  have hl := hvr.len
  have hu := elemsUnbox hvr
  have hk := hvr.ok
  simp only [List.length_map] at hl
  have hlx : (elC x).length = 5 := rfl
  have key : optW (ecall T f_hedgerowref07_Live [vr, .agg (elC x)] H) fun r => ∃ v H', r = (v, H') ∧ Grown 27 H .nilsl ((live R x).map evG) H' v := by
    rw [ecall_0 T_hedgerowref07_Live rfl (by simp [F_hedgerowref07_Live]), wp_fin1]
    simp only [F_hedgerowref07_Live, b_hedgerowref07_Live]
    simp [hl, hu, hk]
    rw [wp_seqK, wp_blockK]
    refine live_loop hR hok vr hvr x 0 _ _ H hbt _ (by simp [hu]) (by simp [hu]) (by simp) (by simp) (by simp) (by simp) ?_
    intro l g H' v k5 hG hf
    have ok := hG.ok
    simp [k5, ok]
    exact ⟨v, H', ⟨rfl, rfl⟩, hG⟩
  obtain ⟨r, h, v, H', rfl, h2⟩ := key
  exact ⟨v, H', h, h2⟩
end Go.Proofs.YthmplnbogdfajaaGreatDoor

namespace Go.Proofs.YthmplnbogdfajaaGreatDoor
open Go.Sh
set_option maxHeartbeats 4000000
set_option maxRecDepth 100000

/-! ## Entries of any element -/

theorem el_key' {x : El} (h : ElBig x) (hr : ElRange x) : keyOk true kLs (elG x) = true := by
  obtain ⟨h1, h2⟩ := hr
  have := h.a; have := h.b; have := h.c; have := h.d
  simp [keyOk, elC, keyFits, maxLen, IntKind.min, IntKind.max, IntKind.signed, IntKind.bits]
  omega

theorem has_dec' {x : El} (hk : keyOk true kLs (elG x) = true) : ∀ {es : List (GV × GV)} {S : List Stp}, mapO decP es = some S → Has es x (getS S x)
  | [], S, h => by simp only [mapO, Option.some.injEq] at h; subst h; exact .inl ⟨rfl, rfl⟩
  | p :: es, S, h => by
    simp only [mapO] at h
    split at h
    · rename_i a b ha hb
      injection h with h; subst h
      have ih := has_dec' hk hb
      have hke : keyEq p.1 (elG x) = decide (a.1 = x) := by
        obtain ⟨e1, _, o1⟩ := decP_eq ha
        rw [e1, Bool.eq_iff_iff, keyEq_iff (el_key o1.fit o1.range) hk, decide_eq_true_eq]
        exact ⟨elG_inj, fun h => by rw [h]⟩
      unfold Has mapGet getS at ih ⊢
      rw [List.find?_cons, List.find?_cons, hke]
      by_cases e : a.1 = x
      · simp only [e, decide_true]
        obtain ⟨_, ⟨t, ht⟩, _⟩ := decP_eq ha
        exact .inr ⟨p.2, rfl, by rw [ht]; exact .sl _ _⟩
      · simp only [e, decide_false]; exact ih
    · cases h

theorem entries_ok {H : GH} {s m : Nat} {S : List Stp} (h : Sto H s m S) (x : El) (hk : keyOk true kLs (elG x) = true) (hL : (getS S x).length ≤ 1000000) (hbo : H.bo ≤ H.objs.length) :
    ∃ v', ecall T f_store_Store_Entries [.ptr s 0, .agg (elC x)] H = some (v', killH (getS S x) H) ∧ Elems 5 v' ((getS S x).map entG) := by
  obtain ⟨⟨es, ⟨h1, h2, h3⟩, hd⟩, _⟩ := h
  have hv := has_dec' hk hd
  generalize getS S x = L at hv hL
  obtain ⟨w, c1, c2⟩ := clone_ent L _ hv.get hL H
  obtain ⟨v', hf, hE⟩ := freeze_ent c2 hbo
  refine ⟨v', ?_, hE⟩
  have hok' : w.ok = true := by rcases c2.elems with ⟨_, h⟩ | ⟨_, h⟩; exact h.ok; subst h; rfl
  have hu' : ∀ t, unbox t w = w := by rcases c2.elems with ⟨_, h⟩ | ⟨_, h⟩; exact elemsUnbox h; subst h; exact fun _ => rfl
  have gok := hv.get.ok
  have gu := elemsUnbox hv.get
  have vok := hE.ok
  have vu := elemsUnbox hE
  apply optW.eq
  rw [ecall_0 T_store_Store_Entries rfl (by simp [F_store_Store_Entries]), wp_fin1]
  simp only [elG, elC] at hk c1 gok gu
  simp [F_store_Store_Entries, b_store_Store_Entries, elC, h1, h2, hk, c1, hok', hu', hf, gok, gu, vok, vu, geff_freeze, freeze_nil]

end Go.Proofs.YthmplnbogdfajaaGreatDoor
