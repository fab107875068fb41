/- Own work: the shadow machine and what it shows, part Lv. -/
import Derived.Test.YthmplnbogdfajaaGreatDoorCo
import Derived.Test.YthmplnbogdfajaaGreatDoorRowA
set_option linter.all false

namespace Go.Proofs.YthmplnbogdfajaaGreatDoor
open Go.Sh
set_option maxHeartbeats 4000000
set_option maxRecDepth 100000

/-! ## What is left of a row's events -/

def knowsR (v : List Int) (r c : Int) : Bool := decide (c ≤ at16 v r)
def undoes (x : El) (y a : Evt) : Bool := (decide (y.x = x) && !decide (y.op = 1)) && (!decide (y.r = a.r ∧ y.c = a.c) && knowsR y.past a.r a.c)
def liveB (R : List Evt) (x : El) (a : Evt) : Bool := (decide (a.x = x) && decide (a.op = 1 ∨ a.op = 3)) && !R.any fun y => undoes x y a
def live (R : List Evt) (x : El) : List Evt := R.filter (liveB R x)

theorem causl_up : ∀ {l : List Evt} {v : List Int}, v.length = 16 → Causl v l → (∀ k : Int, 0 ≤ k → at16 v k ≤ at16 (setAll v l) k) ∧ ∀ y ∈ l, evB y = true ∧ at16 v y.r < y.c ∧ y.c ≤ at16 (setAll v l) y.r ∧ ∀ k : Int, 0 ≤ k → k < 16 → at16 y.past k ≤ at16 (setAll v l) k
  | [], v, _, _ => ⟨fun k _ => Int.le_refl _, fun y h => by cases h⟩
  | e :: l, v, hv, hc => by
    obtain ⟨hf, hc⟩ := hc
    obtain ⟨hb, ha, hp⟩ := fits_iff hf
    obtain ⟨r0, r1, c0, c1⟩ := evB_dot hb
    have hat := at_set hv (c := e.c) r0 r1
    obtain ⟨h1, h2⟩ := causl_up (v := setV v e) (by simp [setV, hv]) hc
    have up1 : ∀ k : Int, 0 ≤ k → at16 v k ≤ at16 (setV v e) k := fun k hk => by
      unfold setV; rw [hat k hk]; split
      · rename_i e1; rw [e1]; omega
      · exact Int.le_refl _
    refine ⟨fun k hk => Int.le_trans (up1 k hk) (h1 k hk), fun y hy => ?_⟩
    rcases List.mem_cons.1 hy with rfl | hy
    · refine ⟨hb, by omega, ?_, fun k hk hk2 => ?_⟩
      · have := h1 y.r r0
        unfold setV at this
        rw [hat y.r r0, if_pos rfl] at this
        exact this
      · have h3 := hp k.toNat (by omega)
        rw [Int.toNat_of_nonneg hk] at h3
        exact Int.le_trans h3 (Int.le_trans (up1 k hk) (h1 k hk))
    · obtain ⟨q1, q2, q3, q4⟩ := h2 y hy
      have := up1 y.r (evB_dot q1).1
      exact ⟨q1, by omega, q3, q4⟩

theorem putE_perm (L : List Ent) (x : Ent) : (putE L x).Perm (L ++ [x]) := by
  unfold putE
  refine List.perm_middle.trans ?_
  refine (List.Perm.cons x (List.filter_append_perm (fun y => decide (ordD y x < 0)) L)).trans ?_
  exact (List.perm_append_singleton x L).symm

theorem map_filter_map {α β : Type} (f : α → β) (p : β → Bool) (l : List α) : (l.map f).filter p = (l.filter fun a => p (f a)).map f := by
  rw [List.filter_map]; rfl

theorem live_step {l : List Evt} {e : Evt} (hl : Causl zero16 l) (hf : fitsB (setAll zero16 l) e = true) (x : El) :
    live (l ++ [e]) x = (if x = e.x then ((if e.op = 1 then live l x else (live l x).filter fun a => !knowsB e.past a.r a.c) ++ if e.op = 1 ∨ e.op = 3 then [e] else []) else live l x) := by
  obtain ⟨_, hu⟩ := causl_up (v := zero16) rfl hl
  obtain ⟨hb, ha, hp⟩ := fits_iff hf
  obtain ⟨r0, r1, c0, c1⟩ := evB_dot hb
  have hB : ∀ a, liveB (l ++ [e]) x a = (liveB l x a && !undoes x e a) := fun a => by
    unfold liveB
    rw [List.any_append]
    simp only [List.any_cons, List.any_nil, Bool.or_false, Bool.not_or, Bool.and_assoc]
  unfold live
  rw [List.filter_append]
  by_cases hx : x = e.x
  · rw [if_pos hx]
    have he : [e].filter (liveB (l ++ [e]) x) = if e.op = 1 ∨ e.op = 3 then [e] else [] := by
      have hn : undoes x e e = false := by simp [undoes]
      have hany : (l.any fun y => undoes x y e) = false := by
        rw [List.any_eq_false]
        intro y hy
        obtain ⟨_, _, _, q4⟩ := hu y hy
        have := q4 e.r r0 r1
        have hk : knowsR y.past e.r e.c = false := by unfold knowsR; exact decide_eq_false (by omega)
        simp [undoes, hk]
      have : liveB (l ++ [e]) x e = decide (e.op = 1 ∨ e.op = 3) := by
        rw [hB, hn]; unfold liveB; rw [hany, hx]; simp
      rw [List.filter_cons, this]
      by_cases ho : e.op = 1 ∨ e.op = 3
      · rw [if_pos ho, if_pos (decide_eq_true ho)]; rfl
      · rw [if_neg ho, if_neg (by simpa using ho)]; rfl
    rw [he]
    congr 1
    by_cases ho : e.op = 1
    · rw [if_pos ho]
      apply List.filter_congr
      intro a _
      rw [hB]; simp [undoes, ho]
    · rw [if_neg ho, List.filter_filter]
      apply List.filter_congr
      intro a hm
      obtain ⟨q1, _, q3, _⟩ := hu a hm
      have hd := evB_dot q1
      have hne : ¬ (e.r = a.r ∧ e.c = a.c) := fun h => by
        rw [← h.1, ha] at q3; omega
      have hk : knowsB e.past a.r a.c = knowsR e.past a.r a.c := by
        have : dotB a.r a.c = true := by simp only [dotB, decide_eq_true_eq]; exact hd
        unfold knowsB knowsR; rw [this, Bool.true_and]
      rw [hB, hk, Bool.and_comm]
      unfold undoes
      rw [hx, decide_eq_false ho, decide_eq_false hne]
      simp
  · rw [if_neg hx]
    have h0 : ∀ a, undoes x e a = false := fun a => by
      unfold undoes; rw [decide_eq_false (fun h => hx h.symm)]; rfl
    have he : [e].filter (liveB (l ++ [e]) x) = [] := by
      have : liveB (l ++ [e]) x e = false := by
        rw [hB]; unfold liveB; rw [decide_eq_false (fun h => hx h.symm)]; rfl
      rw [List.filter_cons, this]; rfl
    rw [he, List.append_nil]
    apply List.filter_congr
    intro a _
    rw [hB, h0]; simp

theorem live_do {R : List Evt} (h : Row R) (x : El) : ∀ i ≤ R.length, (getS (doAll (R.take i)) x).Perm ((live (R.take i) x).map evEnt)
  | 0, _ => by rw [List.take_zero]; exact .refl _
  | i + 1, hi => by
    have ih := live_do h x i (by omega)
    obtain ⟨e, he⟩ : ∃ e, R[i]? = some e := ⟨R[i], List.getElem?_eq_getElem (by omega)⟩
    obtain ⟨hg, hf, hd⟩ := h.at_ he
    have ht : R.take (i + 1) = R.take i ++ [e] := by rw [List.take_add_one, he]; rfl
    have hc : Causl zero16 (R.take i) := by
      have := h.causl
      rw [← List.take_append_drop i R] at this
      exact (causl_app.1 this).1
    rw [hd, ht, live_step hc hf]
    unfold doF
    rw [getS_put]
    by_cases hx : x = e.x
    · rw [if_pos hx, if_pos hx, ← hx]
      have hcut : (cutE e (getS (doAll (R.take i)) x)).Perm ((if e.op = 1 then live (R.take i) x else (live (R.take i) x).filter fun a => !knowsB e.past a.r a.c).map evEnt) := by
        unfold cutE
        by_cases ho : e.op = 1
        · rw [if_pos ho, if_pos ho]; exact ih
        · rw [if_neg ho, if_neg ho]
          have := ih.filter fun y => !knowsB e.past y.r y.c
          rw [map_filter_map] at this
          exact this
      unfold doL
      by_cases ho : e.op = 1 ∨ e.op = 3
      · rw [if_pos ho, if_pos ho, List.map_append]
        exact (putE_perm _ _).trans (hcut.append_right _)
      · rw [if_neg ho, if_neg ho, List.append_nil]
        exact hcut
    · rw [if_neg hx, if_neg hx]; exact ih

theorem live_all {R : List Evt} (h : Row R) (x : El) : (getS (doAll R) x).Perm ((live R x).map evEnt) := by
  have := live_do h x R.length (Nat.le_refl _)
  rwa [List.take_length] at this

theorem dots_eq {L L' : List Ent} (h : Dots L) (h' : Dots L') (hp : L.Perm L') : L = L' :=
  List.Perm.eq_of_pairwise (le := fun a b => ordD a b < 0) (fun a b _ _ h1 h2 => by
    have hs : ordD b a = - ordD a b := by
      rw [ordD_eq, ordD_eq]; exact (thenC_ok cmpI_ok cmpI_ok).swap _ _
    omega) h h' hp

theorem live_perm {R R' : List Evt} (h : R.Perm R') (x : El) : (live R x).Perm (live R' x) := by
  unfold live
  have : liveB R x = liveB R' x := by
    funext a
    unfold liveB
    rw [h.any_eq]
  rw [this]
  exact h.filter _

/-- The order is free. -/
theorem order_free {R R' : List Evt} (h : Row R) (h' : Row R') (hp : R.Perm R') (x : El) : getS (doAll R) x = getS (doAll R') x :=
  dots_eq (h.good.dots x) (h'.good.dots x) ((live_all h x).trans (((live_perm hp x).map _).trans (live_all h' x).symm))

theorem causl_dots : ∀ {l : List Evt} {v : List Int}, v.length = 16 → Causl v l → l.Pairwise fun a b => ¬ (a.r = b.r ∧ a.c = b.c)
  | [], _, _, _ => List.Pairwise.nil
  | e :: l, v, hv, hc => by
    obtain ⟨hf, hc⟩ := hc
    obtain ⟨hb, ha, hp⟩ := fits_iff hf
    obtain ⟨r0, r1, c0, c1⟩ := evB_dot hb
    have hl : (setV v e).length = 16 := by simp [setV, hv]
    refine List.pairwise_cons.2 ⟨fun y hy h => ?_, causl_dots hl hc⟩
    obtain ⟨_, q2, _, _⟩ := (causl_up hl hc).2 y hy
    unfold setV at q2
    rw [at_set hv r0 r1 y.r (by omega), if_pos h.1.symm] at q2
    omega
end Go.Proofs.YthmplnbogdfajaaGreatDoor

namespace Go.Proofs.YthmplnbogdfajaaGreatDoor
open Go.Sh
set_option maxHeartbeats 4000000
set_option maxRecDepth 100000

/-! ## What is left, as the document walks it -/

theorem ba_eq (a b : List UInt8) : (mkB a == mkB b) = decide (a = b) := by
  by_cases h : a = b
  · subst h; rw [ba_self]; simp
  · rw [decide_eq_false h, Bool.eq_false_iff]
    intro e
    have : mkB a = mkB b := by
      rcases ha : mkB a with ⟨x⟩
      rcases hb : mkB b with ⟨y⟩
      rw [ha, hb] at e
      have e : (x == y) = true := e
      rw [eq_of_beq e]
    have := congrArg (fun b : ByteArray => b.data.toList) this
    simp only [mkB_data] at this
    exact h this

theorem leaves_el (x y : El) : leavesEq [.int .i64, .str, .str, .str, .str] (elC x) (elC y) = some (decide (x = y)) := by
  have : decide (x = y) = (decide (x.k = y.k) && (decide (x.a = y.a) && (decide (x.b = y.b) && (decide (x.c = y.c) && decide (x.d = y.d))))) := by
    rw [Bool.eq_iff_iff]
    simp only [Bool.and_eq_true, decide_eq_true_eq]
    constructor
    · intro h; subst h; exact ⟨rfl, rfl, rfl, rfl, rfl⟩
    · rintro ⟨h1, h2, h3, h4, h5⟩
      cases x; cases y; simp_all
  rw [this]
  by_cases h1 : x.k = y.k <;> by_cases h2 : x.a = y.a <;> by_cases h3 : x.b = y.b <;> by_cases h4 : x.c = y.c <;> by_cases h5 : x.d = y.d <;> simp [leavesEq, leafEq, elC, ba_eq, h1, h2, h3, h4, h5]
theorem leaves_dot (r c r' c' : Int) : leavesEq [.int .i64, .int .i64] [.int .i64 r, .int .i64 c] [.int .i64 r', .int .i64 c'] = some (decide (r = r' ∧ c = c')) := by
  by_cases h1 : r = r' <;> by_cases h2 : c = c' <;> simp [leavesEq, leafEq, h1, h2]
theorem leaves_val (k n : Int) (t : List UInt8) (k' n' : Int) (t' : List UInt8) : leavesEq [.int .i64, .int .i64, .str] [.int .i64 k, .int .i64 n, .str (mkB t)] [.int .i64 k', .int .i64 n', .str (mkB t')] = some (decide (k = k' ∧ n = n' ∧ t = t')) := by
  by_cases h1 : k = k' <;> by_cases h2 : n = n' <;> by_cases h3 : t = t' <;> simp [leavesEq, leafEq, ba_eq, h1, h2, h3]

theorem ref_knows (v : List Int) (hv : v.length = 16) (r c : Int) (h0 : 0 ≤ r) (h1 : r < 16) (H : GH) : ecall T f_hedgerowref07_knows [.agg (v.map intG), .agg [.int .i64 r, .int .i64 c]] H = some (.bool (knowsR v r c), H) := by
  have hi := gIx16 h0 h1
  have ha := vec_atN hv (k := r.toNat) (by omega)
  have hat' : at16 v ((r.toNat : Nat) : Int) = at16 v r := by simp only [at16, Int.toNat_natCast]
  rw [hat'] at ha
  apply optW.eq
  rw [ecall_0 T_hedgerowref07_knows rfl (by simp [F_hedgerowref07_knows]), wp_fin1]
  simp [F_hedgerowref07_knows, b_hedgerowref07_knows, hi, ha, knowsR]

structure EvOk (e : Evt) : Prop where
  fit : EvFit e
  ok : evB e = true
theorem EvOk.dot {e : Evt} (h : EvOk e) : 0 ≤ e.r ∧ e.r < 16 ∧ 1 ≤ e.c ∧ e.c ≤ 1048576 := evB_dot h.ok

/-- Does one of a row undo an event? -/
theorem live_in {R : List Evt} (hR : R.length ≤ 1000) (hok : ∀ e ∈ R, EvOk e) (vr : GV) (hvr : Elems 27 vr (R.map evG)) (x : El) (a : Evt) (ha : EvOk a) (g3 g7 : Nat) (l0 : List GV) (g0 : Nat) (H0 : GH) (K : GExit × St → Prop)
    (h31 : lget l0 31 = vr) (h32 : lget l0 32 = .int .i64 R.length) (h33 : lget l0 33 = .int .i64 0) (h3 : lget l0 3 = .lbox g3 (elC x)) (h7 : lget l0 7 = .lbox g7 (evC a)) (h8 : lget l0 8 = .bool true)
    (he : ∀ l g, lget l 3 = .lbox g3 (elC x) → lget l 7 = .lbox g7 (evC a) → lget l 8 = .bool (!R.any fun y => undoes x y a) → Fr L0_hedgerowref07_Live l0 l → K (.exit 2, ⟨⟨l, g⟩, H0⟩)) :
    optW (erun T (.loop L0_hedgerowref07_Live) ⟨⟨l0, g0⟩, H0⟩) K := by
  refine range_loop (T := T) (n := R.length) (A := Unit) (fun i _ => [(3, .lbox g3 (elC x)), (7, .lbox g7 (evC a)), (8, .bool (!(R.take i).any fun y => undoes x y a))]) (fun i _ _ H' => H' = H0) (c := 34) (b := 2) (I := 33) (N := 32) (d := 60) rfl (by omega) (by decide) ⟨rfl, rfl⟩ (by simp) ?_ ?_ 0 () _ _ H0 (by omega) rfl (by simp [h3, h7, h8]) (.refl _ _ _) h33 h32
  · intro i u l g H' hi hH hh hf hI
    subst hH
    have h31' := hf.get 31 rfl h31 (by simp [hvr.boxy])
    obtain ⟨lt, ix, opt, get, ⟨t, sv⟩, wr_, mem⟩ := at_ok (e := evG) hvr hi (by omega)
    generalize R[i]'hi = y at opt get mem
    obtain ⟨hfy, hby⟩ := hok y mem
    have l1 := ev_len hfy.past
    have l4 : List.take 27 (evC y) = evC y := List.take_of_length_le (by rw [l1]; exact Nat.le_refl _)
    have lo := ev_one hfy.past
    have sp := ev_set hfy.past
    have l6 := ev_el hfy.past
    have l5 := ev_18 hfy.past
    have l5' := ev_18' hfy.past
    have l3 := ev_dot y
    have l2 := ev_past hfy.past
    have a1 := ev_len ha.fit.past
    have a3 := ev_dot a
    have le := leaves_el y.x x
    have ld := leaves_dot y.r y.c a.r a.c
    have hkn := fun H => ref_knows y.past hfy.past a.r a.c ha.dot.1 ha.dot.2.1 H
    simp only [Holds_cons, Holds_nil, and_true] at hh
    obtain ⟨hh3, hh7, hh8⟩ := hh
    have hs : (!(R.take (i + 1)).any fun y => undoes x y a) = ((!(R.take i).any fun y => undoes x y a) && !undoes x y a) := by
      rw [List.take_add_one, opt, List.any_append]; simp
    rw [hs]
    generalize (!(R.take i).any fun y => undoes x y a) = b8 at hh8
    have hlx : (elC x).length = 5 := rfl
    have htx : List.take 5 (elC x) = elC x := rfl
    rw [sv] at h31'
    unfold undoes
    by_cases c1 : y.x = x
    · rw [c1] at l6 le
      by_cases c2 : y.op = 1
      · simp [h31', hI, hh3, hh7, hh8, ix, opt, get, sp, l1, l4, lo, l6, l5, l5', le, c1, c2, hlx, htx]
      · by_cases c3 : y.r = a.r ∧ y.c = a.c
        · rw [c3.1, c3.2] at ld
          simp [h31', hI, hh3, hh7, hh8, ix, opt, get, sp, l1, l4, lo, l6, l5, l5', l3, a1, a3, ld, le, c1, c2, c3, hlx, htx]
        · cases hk : knowsR y.past a.r a.c with
          | false =>
            rw [hk] at hkn
            simp [h31', hI, hh3, hh7, hh8, ix, opt, get, sp, l1, l4, lo, l6, l5, l5', l3, l2, a1, a3, ld, le, c1, c2, c3, hkn, hlx, htx]
          | true =>
            rw [hk] at hkn
            simp [h31', hI, hh3, hh7, hh8, ix, opt, get, sp, l1, l4, lo, l6, l5, l5', l3, l2, a1, a3, ld, le, c1, c2, c3, hkn, hlx, htx]
    · simp [h31', hI, hh3, hh7, hh8, ix, opt, get, sp, l1, l4, lo, l6, le, c1, hlx, htx]
  · intro u l g H' hH hh hf
    subst hH
    simp only [Holds_cons, Holds_nil, and_true] at hh
    rw [List.take_length] at hh
    exact he l g hh.1 hh.2.1 hh.2.2 hf

/-- What is left of a row, of an element. -/
theorem live_loop {R : List Evt} (hR : R.length ≤ 1000) (hok : ∀ e ∈ R, EvOk e) (vr : GV) (hvr : Elems 27 vr (R.map evG)) (x : El) (g3 : Nat) (l0 : List GV) (g0 : Nat) (H0 : GH) (hbt : H0.bt ≤ H0.toks.length) (K : GExit × St → Prop)
    (h0 : lget l0 0 = vr) (h11 : lget l0 11 = vr) (h12 : lget l0 12 = .int .i64 R.length) (h13 : lget l0 13 = .int .i64 0) (h3 : lget l0 3 = .lbox g3 (elC x)) (h5 : lget l0 5 = .nilsl)
    (he : ∀ l g H v, lget l 5 = v → Grown 27 H0 .nilsl ((live R x).map evG) H v → Fr L1_hedgerowref07_Live l0 l → K (.exit 0, ⟨⟨l, g⟩, H⟩)) :
    optW (erun T (.loop L1_hedgerowref07_Live) ⟨⟨l0, g0⟩, H0⟩) K := by
  refine range_loop (T := T) (n := R.length) (A := GV) (fun _ s => [(3, .lbox g3 (elC x)), (5, s)]) (fun i s _ H' => Grown 27 H0 .nilsl (((R.take i).filter (liveB R x)).map evG) H' s) (c := 14) (b := 0) (I := 13) (N := 12) (d := 66) rfl (by omega) (by decide) ⟨rfl, rfl⟩ (by simp) ?_ ?_ 0 .nilsl _ _ H0 (by omega) (by simpa using Grown.refl App.nil) (by simp [h3, h5]) (.refl _ _ _) h13 h12
  · intro i s l g H' hi hG hh hf hI
    have h0' := hf.get 0 rfl h0 (by simp [hvr.boxy])
    have h11' := hf.get 11 rfl h11 (by simp [hvr.boxy])
    have hl := hvr.len
    have hu := elemsUnbox hvr
    have hk := hvr.ok
    simp only [List.length_map] at hl
    obtain ⟨lt, ix, opt, get, ⟨t, sv⟩, wr_, mem⟩ := at_ok (e := evG) hvr hi (by omega)
    generalize R[i]'hi = a at opt get mem
    have ha := hok a mem
    have l1 := ev_len ha.fit.past
    have l4 : List.take 27 (evC a) = evC a := List.take_of_length_le (by rw [l1]; exact Nat.le_refl _)
    have lo := ev_one ha.fit.past
    have sp := ev_set ha.fit.past
    have l6 := ev_el ha.fit.past
    have l5 := ev_18 ha.fit.past
    have l5' := ev_18' ha.fit.past
    have le := leaves_el a.x x
    have hlx : (elC x).length = 5 := rfl
    have htx : List.take 5 (elC x) = elC x := rfl
    have ht : R.take (i + 1) = R.take i ++ [a] := by rw [List.take_add_one, opt]; rfl
    rw [ht, List.filter_append]
    have hfl : ((R.take i).filter (liveB R x)).length ≤ 1000 := Nat.le_trans (List.length_filter_le _ _) (by rw [List.length_take]; omega)
    generalize (R.take i).filter (liveB R x) = F at hG hfl
    simp only [Holds_cons, Holds_nil, and_true] at hh
    obtain ⟨hh3, hh5⟩ := hh
    have h11s := h11'
    rw [sv] at h11'
    have hsk := hG.ok
    have hse := hG.app.elems
    have hsb := hse.boxy
    by_cases c1 : a.x = x
    · rw [c1] at l6 le
      by_cases c2 : a.op = 1 ∨ a.op = 3
      · have hlv : liveB R x a = !R.any fun y => undoes x y a := by unfold liveB; rw [c1, decide_eq_true c2]; simp
        have key : ∀ (l1' : List GV), lget l1' 31 = vr → lget l1' 32 = .int .i64 R.length → lget l1' 33 = .int .i64 0 → lget l1' 3 = .lbox g3 (elC x) → lget l1' 7 = .lbox g (evC a) → lget l1' 8 = .bool true → lget l1' 5 = s →
            optW (erun T (.loop L0_hedgerowref07_Live) ⟨⟨l1', g + 1⟩, H'⟩) fun r => ∃ l2 g2, r = (.exit 2, ⟨⟨l2, g2⟩, H'⟩) ∧ lget l2 3 = .lbox g3 (elC x) ∧ lget l2 7 = .lbox g (evC a) ∧ lget l2 8 = .bool (liveB R x a) ∧ lget l2 5 = s := fun l1' k31 k32 k33 k3 k7 k8 k5 => by
          refine live_in hR hok vr hvr x a ha g3 g l1' (g + 1) H' _ k31 k32 k33 k3 k7 k8 ?_
          intro l2 g2 j3 j7 j8 hf2
          exact ⟨l2, g2, rfl, j3, j7, by rw [hlv]; exact j8, hf2.get 5 rfl k5 (by simp [hsb])⟩
        rcases c2 with c2 | c2
        all_goals
          simp [h11', h0', hl, hu, hk, hI, hh3, hh5, ix, opt, get, sp, l1, l4, lo, l6, l5, l5', le, c1, c2, hlx, htx]
          rw [wp_blockK, wp_seqK, wp_blockK]
          refine optW.mono (key _ (by simp [hu]) (by simp) (by simp) (by simp [hh3]) (by simp) (by simp) (by simp [hh5])) ?_
          rintro _ ⟨l2, g2, rfl, j3, j7, j8, j5⟩
          cases hb : liveB R x a with
          | false =>
            rw [hb] at j8
            simp [j3, j5, j8]
            have hf0 : [a].filter (liveB R x) = [] := by rw [List.filter_cons, hb]; rfl
            rw [hf0, List.map_nil, List.append_nil]
            exact fun _ => hG
          | true =>
            rw [hb] at j8
            obtain ⟨s', H2, a1, G1⟩ := append_grown (ty := 38) (bytes := 256) (ys := [evG a]) (x := .sl 27 [evG a] .exact) hG.app (by simp [gNews]) (hG.step.btle hbt) (by simp only [List.length_singleton, List.length_map, room]; omega) (by simp only [List.length_singleton, List.length_map, maxLen]; omega)
            have sk' := G1.ok
            have hG2 := hG.trans G1
            simp [j3, j5, j7, j8, l1, l4, lo, gSetAll, gFill, a1, hsk, sk']
            have hf1 : [a].filter (liveB R x) = [a] := by rw [List.filter_cons, hb]; rfl
            rw [hf1]
            exact fun _ => hG2
      · have c3 : ¬ a.op = 1 := fun h => c2 (.inl h)
        have c4 : ¬ a.op = 3 := fun h => c2 (.inr h)
        have hn : liveB R x a = false := by unfold liveB; rw [decide_eq_false c2]; simp
        simp [h11', hI, hh3, hh5, ix, opt, get, sp, l1, l4, lo, l6, l5, l5', le, c1, c3, c4, hlx, htx, hn]
        exact fun _ => hG
    · have hn : liveB R x a = false := by unfold liveB; rw [decide_eq_false c1]; rfl
      simp [h11', hI, hh3, hh5, ix, opt, get, sp, l1, l4, lo, l6, le, c1, hlx, htx, hn]
      exact fun _ => hG
  · intro s l g H' hG hh hf
    simp only [Holds_cons, Holds_nil, and_true] at hh
    rw [List.take_length] at hG
    exact he l g H' s hh.2 hG hf

theorem ref_Live {R : List Evt} (hR : R.length ≤ 1000) (hok : ∀ e ∈ R, EvOk e) (vr : GV) (hvr : Elems 27 vr (R.map evG)) (x : El) (H : GH) (hbt : H.bt ≤ H.toks.length) :
    ∃ v H', ecall T f_hedgerowref07_Live [vr, .agg (elC x)] H = some (v, H') ∧ Grown 27 H .nilsl ((live R x).map evG) H' v := by
  have hl := hvr.len
  have hu := elemsUnbox hvr
  have hk := hvr.ok
  simp only [List.length_map] at hl
  have hlx : (elC x).length = 5 := rfl
  have key : optW (ecall T f_hedgerowref07_Live [vr, .agg (elC x)] H) fun r => ∃ v H', r = (v, H') ∧ Grown 27 H .nilsl ((live R x).map evG) H' v := by
    rw [ecall_0 T_hedgerowref07_Live rfl (by simp [F_hedgerowref07_Live]), wp_fin1]
    simp only [F_hedgerowref07_Live, b_hedgerowref07_Live]
    simp [hl, hu, hk]
    rw [wp_seqK, wp_blockK]
    refine live_loop hR hok vr hvr x 0 _ _ H hbt _ (by simp [hu]) (by simp [hu]) (by simp) (by simp) (by simp) (by simp) ?_
    intro l g H' v k5 hG hf
    have ok := hG.ok
    simp [k5, ok]
    exact ⟨v, H', ⟨rfl, rfl⟩, hG⟩
  obtain ⟨r, h, v, H', rfl, h2⟩ := key
  exact ⟨v, H', h, h2⟩
end Go.Proofs.YthmplnbogdfajaaGreatDoor

namespace Go.Proofs.YthmplnbogdfajaaGreatDoor
open Go.Sh
set_option maxHeartbeats 4000000
set_option maxRecDepth 100000

/-! ## Rows in order, as the document lays them -/

def ixP {α : Type} (p : α → Bool) (out : List α) : Nat := (out.takeWhile p).length
def insP {α : Type} (p : α → Bool) (e : α) (out : List α) : List α := out.take (ixP p out) ++ e :: out.drop (ixP p out)

theorem ix_of {α : Type} {p : α → Bool} : ∀ {out : List α} {i : Nat}, i ≤ out.length → (∀ k, k < i → ∀ y, out[k]? = some y → p y = true) → (∀ y, out[i]? = some y → p y = false) → ixP p out = i
  | [], i, h, _, _ => by simp [ixP] at h ⊢; omega
  | y :: out, 0, _, _, h2 => by
    have := h2 y rfl
    simp [ixP, List.takeWhile_cons, this]
  | y :: out, i + 1, h, h1, h2 => by
    have h0 := h1 0 (by omega) y rfl
    have ih := ix_of (p := p) (out := out) (i := i) (by simpa using h) (fun k hk z hz => h1 (k + 1) (by omega) z (by simpa using hz)) (fun z hz => h2 z (by simpa using hz))
    simp only [ixP] at ih ⊢
    rw [List.takeWhile_cons, h0]
    simp [ih]
theorem ix_le {α : Type} (p : α → Bool) (out : List α) : ixP p out ≤ out.length := (List.takeWhile_sublist p).length_le

/-- Three rows, one behind the other, as a new one. -/
theorem append_three {H : GH} {ty sz bytes : Nat} {a b : GV} {xs ys : List GV} {z : GV} (ha : Elems sz a xs) (hb : Elems sz b ys) (hz : gNews sz (.sl sz [z] .exact) = some [z]) (hbt : H.bt ≤ H.toks.length) (hl : xs.length + ys.length ≤ 1000) (hby : bytes ≤ 256) :
    ∃ m H1 n H2 r H3, gAppend H ty sz bytes (.sl sz [] .exact) a = some (m, H1) ∧ m.ok = true ∧ gAppend H1 ty sz bytes m (.sl sz [z] .exact) = some (n, H2) ∧ n.ok = true ∧ gAppend H2 ty sz bytes n b = some (r, H3) ∧ r.ok = true ∧ Elems sz r (xs ++ z :: ys) ∧ TokStep none H H3 := by
  have hm : ∀ k : Nat, k ≤ 1001 → k * bytes ≤ room := fun k hk => Nat.le_trans (Nat.mul_le_mul hk hby) (by simp only [room]; omega)
  obtain ⟨m, H1, a1, G1⟩ := append_grown (H := H) (ty := ty) (bytes := bytes) (x := a) (App.exact (sz := sz) []) ha.news hbt (hm _ (by simp only [List.length_nil]; omega)) (by simp only [List.length_nil, maxLen]; omega)
  obtain ⟨n, H2, a2, G2⟩ := append_grown (ty := ty) (bytes := bytes) (x := .sl sz [z] .exact) G1.app hz (G1.step.btle hbt) (hm _ (by simp only [List.length_append, List.length_nil, List.length_singleton]; omega)) (by simp only [List.length_append, List.length_nil, List.length_singleton, maxLen]; omega)
  have G12 := G1.trans G2
  obtain ⟨r, H3, a3, G3⟩ := append_grown (ty := ty) (bytes := bytes) (x := b) G2.app hb.news (G12.step.btle hbt) (hm _ (by simp only [List.length_append, List.length_nil, List.length_singleton]; omega)) (by simp only [List.length_append, List.length_nil, List.length_singleton, maxLen]; omega)
  have G := G12.trans G3
  exact ⟨m, H1, n, H2, r, H3, a1, G1.ok, a2, G2.ok, a3, G.ok, by simpa using G.app.elems, G.step⟩

def firstE (e y : Evt) : Bool := firstD y.r y.c e.r e.c
def sortE (l : List Evt) : List Evt := l.foldl (fun out e => insP (firstE e) e out) []

theorem sorted_in (e : Evt) (he : EvFit e) (out : List Evt) (ho : out.length ≤ 1000) (hof : ∀ y ∈ out, EvFit y) (v : GV) (hv : Elems 27 v (out.map evG)) (g5 : Nat) (l0 : List GV) (g0 : Nat) (H0 : GH) (K : GExit × St → Prop)
    (h3 : lget l0 3 = v) (h5 : lget l0 5 = .lbox g5 (evC e)) (h6 : lget l0 6 = .int .i64 0)
    (hk : ∀ l g, lget l 6 = .int .i64 (ixP (firstE e) out) → Fr L0_hedgerowref07_Sorted l0 l → K (.exit 2, ⟨⟨l, g⟩, H0⟩)) :
    optW (erun T (.loop L0_hedgerowref07_Sorted) ⟨⟨l0, g0⟩, H0⟩) K := by
  refine while_loop (l0 := l0) (fun m l g H => H = H0 ∧ ∃ i : Nat, m = out.length - i ∧ i ≤ out.length ∧ lget l 6 = .int .i64 i ∧ ∀ k, k < i → ∀ y, out[k]? = some y → firstE e y = true) ?_ out.length l0 g0 H0 ⟨rfl, 0, rfl, Nat.zero_le _, h6, fun k hk => by omega⟩ (.refl _ _ _)
  intro m l g H ⟨hH, i, hm, hi, q6, lo⟩ hf
  subst hH
  have q3 := hf.get 3 rfl h3 (by simp [hv.boxy])
  have q5 := hf.get 5 rfl h5 rfl
  have hl := hv.len
  have hu := elemsUnbox hv
  have hok := hv.ok
  simp only [List.length_map] at hl
  have e1 := ev_len he.past
  have e3 := ev_dot e
  by_cases hlt : i < out.length
  · have hlt' : (i : Int) < out.length := by omega
    obtain ⟨lt, ix, opt, get, ⟨t, sl⟩, wr_, mem⟩ := at_ok (e := evG) hv hlt (by omega)
    generalize out[i]'hlt = y at opt get mem
    have y1 := ev_len (hof y mem).past
    have y3 := ev_dot y
    have hfi := fun H => ref_First y.r y.c e.r e.c H
    have hw : IntKind.i64.wrap ((i : Int) + 1) = (i : Int) + 1 := wrap_i64' (by omega) (by omega)
    rw [sl] at q3
    have hfd : firstE e y = firstD y.r y.c e.r e.c := rfl
    cases hb : firstD y.r y.c e.r e.c with
    | true =>
      rw [hb] at hfi
      simp [L0_hedgerowref07_Sorted, q3, q5, q6, hl, hlt', ix, opt, e1, e3, y1, y3, hfi, hw]
      refine ⟨out.length - (i + 1), by omega, i + 1, rfl, by omega, by simp, fun k hk z hz => ?_⟩
      rcases Nat.lt_or_ge k i with h | h
      · exact lo k h z hz
      · have : k = i := by omega
        rw [this, opt] at hz
        injection hz with hz
        rw [← hz, hfd, hb]
    | false =>
      rw [hb] at hfi
      have hx := ix_of (p := firstE e) hi lo (fun z hz => by rw [opt] at hz; injection hz with hz; rw [← hz, hfd, hb])
      simp [L0_hedgerowref07_Sorted, q3, q5, q6, hl, hlt', ix, opt, e1, e3, y1, y3, hfi, hw]
      exact fun hf' => hk _ _ (by simp [q6, hx]) hf'
  · have hie : i = out.length := by omega
    have hx := ix_of (p := firstE e) hi lo (fun z hz => by rw [hie] at hz; simp at hz)
    simp [L0_hedgerowref07_Sorted, q3, q6, hl, hu, hok, hlt]
    exact fun hf' => hk _ _ (by simp [q6, hx]) hf'

theorem gBound_nat' {n k : Nat} (h : k ≤ n) : gBound n (.int .i64 (k : Int)) = some k := by
  simp only [gBound]; rw [if_pos (by omega)]; simp

theorem insP_mem {α : Type} {p : α → Bool} {e : α} {out : List α} {y : α} : y ∈ insP p e out ↔ y = e ∨ y ∈ out := by
  unfold insP
  rw [List.mem_append, List.mem_cons]
  conv => rhs; rw [← List.take_append_drop (ixP p out) out, List.mem_append]
  constructor
  · rintro (h | h | h)
    · exact .inr (.inl h)
    · exact .inl h
    · exact .inr (.inr h)
  · rintro (h | h | h)
    · exact .inr (.inl h)
    · exact .inl h
    · exact .inr (.inr h)
theorem insP_len {α : Type} (p : α → Bool) (e : α) (out : List α) : (insP p e out).length = out.length + 1 := by
  have := ix_le p out
  unfold insP
  rw [List.length_append, List.length_cons, List.length_take, List.length_drop]
  omega
theorem sortE_len (l : List Evt) : (sortE l).length = l.length := by
  suffices h : ∀ (l : List Evt) (out : List Evt), (l.foldl (fun out e => insP (firstE e) e out) out).length = out.length + l.length by
    have := h l []; simpa [sortE] using this
  intro l
  induction l with
  | nil => intro out; simp
  | cons e l ih => intro out; rw [List.foldl_cons, ih, insP_len, List.length_cons]; omega
theorem sortE_mem (l : List Evt) (y : Evt) : y ∈ sortE l ↔ y ∈ l := by
  suffices h : ∀ (l : List Evt) (out : List Evt), y ∈ (l.foldl (fun out e => insP (firstE e) e out) out) ↔ y ∈ l ∨ y ∈ out by
    have := h l []; simpa [sortE] using this
  intro l
  induction l with
  | nil => intro out; simp
  | cons e l ih =>
    intro out
    rw [List.foldl_cons, ih, insP_mem, List.mem_cons]
    constructor
    · rintro (h | h | h)
      · exact .inl (.inr h)
      · exact .inl (.inl h)
      · exact .inr h
    · rintro ((h | h) | h)
      · exact .inr (.inl h)
      · exact .inl h
      · exact .inr (.inr h)

theorem sorted_loop {R : List Evt} (hR : R.length ≤ 500) (hof : ∀ y ∈ R, EvFit y) (vr : GV) (hvr : Elems 27 vr (R.map evG)) (l0 : List GV) (g0 : Nat) (H0 : GH) (hbt : H0.bt ≤ H0.toks.length) (K : GExit × St → Prop)
    (h7 : lget l0 7 = vr) (h8 : lget l0 8 = .int .i64 R.length) (h9 : lget l0 9 = .int .i64 0) (h3 : lget l0 3 = .nilsl)
    (he : ∀ l g H v, lget l 3 = v → Elems 27 v ((sortE R).map evG) → TokStep none H0 H → Fr L1_hedgerowref07_Sorted l0 l → K (.exit 0, ⟨⟨l, g⟩, H⟩)) :
    optW (erun T (.loop L1_hedgerowref07_Sorted) ⟨⟨l0, g0⟩, H0⟩) K := by
  refine range_loop (T := T) (n := R.length) (A := GV) (fun _ s => [(3, s)]) (fun i s _ H' => Elems 27 s ((sortE (R.take i)).map evG) ∧ TokStep none H0 H') (c := 10) (b := 0) (I := 9) (N := 8) (d := 41) rfl (by omega) (by decide) ⟨rfl, rfl⟩ (by simp) ?_ ?_ 0 .nilsl _ _ H0 (by omega) ⟨.nil, .refl _ _⟩ (by simp [h3]) (.refl _ _ _) h9 h8
  · intro i s l g H' hi ⟨hE, hT⟩ hh hf hI
    have h7' := hf.get 7 rfl h7 (by simp [hvr.boxy])
    obtain ⟨lt, ix, opt, get, ⟨t, sv⟩, wr_, mem⟩ := at_ok (e := evG) hvr hi (by omega)
    generalize R[i]'hi = e at opt get mem
    have hfe := hof e mem
    have l1 := ev_len hfe.past
    have l4 : List.take 27 (evC e) = evC e := List.take_of_length_le (by rw [l1]; exact Nat.le_refl _)
    have lo := ev_one hfe.past
    have sp := ev_set hfe.past
    have hst : sortE (R.take (i + 1)) = insP (firstE e) e (sortE (R.take i)) := foldl_take (fun out e => insP (firstE e) e out) [] R i e opt
    have hol := sortE_len (R.take i)
    rw [List.length_take, Nat.min_eq_left (by omega)] at hol
    have hom : ∀ y ∈ sortE (R.take i), EvFit y := fun y hy => hof y (List.mem_of_mem_take ((sortE_mem _ _).1 hy))
    rw [hst]
    generalize sortE (R.take i) = out at hE hol hom
    simp only [Holds_cons, Holds_nil, and_true] at hh
    rw [sv] at h7'
    have hu := elemsUnbox hE
    simp [h7', hI, hh, ix, opt, get, sp, l1, l4, lo]
    rw [wp_blockK, wp_seqK, wp_blockK]
    refine sorted_in e hfe out (by omega) hom s hE g _ _ H' _ (by simp [hh]) (by simp) (by simp) ?_
    intro l2 g2 k6 hf2
    have k3 := hf2.get 3 rfl (v := s) (by simp [hh]) (by simp [hE.boxy])
    have k5 := hf2.get 5 rfl (v := .lbox g (evC e)) (by simp) rfl
    have hix := ix_le (firstE e) out
    have hb := hT.btle hbt
    unfold insP
    generalize ixP (firstE e) out = k at k6 hix
    have hl := hE.len
    have hk := hE.ok
    simp only [List.length_map] at hl
    have g1 : gBounds (out.map evG).length false true false [.int .i64 (k : Int)] = some (0, k, none) := by
      simp only [gBounds, List.length_map, gBound_nat' hix, Option.map_some]
    have g2' : gBounds (out.map evG).length true false false [.int .i64 (k : Int)] = some (k, out.length, none) := by
      simp only [gBounds, List.length_map, gBound_nat' hix, Option.map_some]
    obtain ⟨c1, d1, e1⟩ := hE.cut g1
    obtain ⟨c2, d2, e2⟩ := hE.cut g2'
    have o1 := e1.ok
    have o2 := e2.ok
    obtain ⟨m, H1, n, H2, r, H3, b1, b2, b3, b4, b5, b6, b7, b8⟩ := append_three (H := H') (ty := 38) (bytes := 256) (z := evG e) e1 e2 (by simp [gNews]) hb (by simp; omega) (by omega)
    simp [k3, k5, k6, hu, hk, d1, d2, o1, o2, l1, l4, lo, gSetAll, gFill, b1, b2, b3, b4, b5, b6]
    have hx : ((out.map evG).drop 0).take (k - 0) ++ evG e :: ((out.map evG).drop k).take (out.length - k) = (out.take k ++ e :: out.drop k).map evG := by
      rw [List.drop_zero, Nat.sub_zero, List.map_append, List.map_cons, List.map_take, List.map_drop, List.take_of_length_le (l := (out.map evG).drop k) (by simp)]
    rw [hx] at b7
    exact fun _ => ⟨by simpa using b7, hT.trans b8⟩
  · intro s l g H' ⟨hE, hT⟩ hh hf
    simp only [Holds_cons, Holds_nil, and_true] at hh
    rw [List.take_length] at hE
    exact he l g H' s hh hE hT hf

theorem ref_Sorted {R : List Evt} (hR : R.length ≤ 500) (hof : ∀ y ∈ R, EvFit y) (vr : GV) (hvr : Elems 27 vr (R.map evG)) (H : GH) (hbt : H.bt ≤ H.toks.length) :
    ∃ v H', ecall T f_hedgerowref07_Sorted [vr] H = some (v, H') ∧ Elems 27 v ((sortE R).map evG) ∧ TokStep none H H' := by
  have hl := hvr.len
  have hu := elemsUnbox hvr
  have hk := hvr.ok
  simp only [List.length_map] at hl
  have key : optW (ecall T f_hedgerowref07_Sorted [vr] H) fun r => ∃ v H', r = (v, H') ∧ Elems 27 v ((sortE R).map evG) ∧ TokStep none H H' := by
    rw [ecall_0 T_hedgerowref07_Sorted rfl (by simp [F_hedgerowref07_Sorted]), wp_fin1]
    simp only [F_hedgerowref07_Sorted, b_hedgerowref07_Sorted]
    simp [hl, hu, hk]
    rw [wp_seqK, wp_blockK]
    refine sorted_loop hR hof vr hvr _ _ H hbt _ (by simp [hu]) (by simp) (by simp) (by simp) ?_
    intro l g H' v k3 hE hT hf
    have ok := hE.ok
    simp [k3, ok]
    exact ⟨v, H', ⟨rfl, rfl⟩, hE, hT⟩
  obtain ⟨r, h, v, H', rfl, h2⟩ := key
  exact ⟨v, H', h, h2⟩
end Go.Proofs.YthmplnbogdfajaaGreatDoor

namespace Go.Proofs.YthmplnbogdfajaaGreatDoor
open Go.Sh
set_option maxHeartbeats 4000000
set_option maxRecDepth 100000

/-! ## A row's elements, in order -/

def lessP (x y : El) : Bool := lessE y x
def addE (out : List El) (x : El) : List El := if out[ixP (lessP x) out]? = some x then out else insP (lessP x) x out
def addEv (out : List El) (e : Evt) : List El := addE out e.x
def elemsE (R : List Evt) : List El := R.foldl addEv []

theorem elems_in (e : Evt) (he : EvFit e) (out : List El) (ho : out.length ≤ 1000) (v : GV) (hv : Elems 5 v (out.map elG)) (g5 : Nat) (l0 : List GV) (g0 : Nat) (H0 : GH) (K : GExit × St → Prop)
    (h3 : lget l0 3 = v) (h5 : lget l0 5 = .lbox g5 (evC e)) (h6 : lget l0 6 = .int .i64 0)
    (hk : ∀ l g, lget l 6 = .int .i64 (ixP (lessP e.x) out) → Fr L0_hedgerowref07_Elems l0 l → K (.exit 2, ⟨⟨l, g⟩, H0⟩)) :
    optW (erun T (.loop L0_hedgerowref07_Elems) ⟨⟨l0, g0⟩, H0⟩) K := by
  refine while_loop (l0 := l0) (fun m l g H => H = H0 ∧ ∃ i : Nat, m = out.length - i ∧ i ≤ out.length ∧ lget l 6 = .int .i64 i ∧ ∀ k, k < i → ∀ y, out[k]? = some y → lessP e.x y = true) ?_ out.length l0 g0 H0 ⟨rfl, 0, rfl, Nat.zero_le _, h6, fun k hk => by omega⟩ (.refl _ _ _)
  intro m l g H ⟨hH, i, hm, hi, q6, lo⟩ hf
  subst hH
  have q3 := hf.get 3 rfl h3 (by simp [hv.boxy])
  have q5 := hf.get 5 rfl h5 rfl
  have hl := hv.len
  have hu := elemsUnbox hv
  have hok := hv.ok
  simp only [List.length_map] at hl
  have e1 := ev_len he.past
  have e6 := ev_el he.past
  by_cases hlt : i < out.length
  · have hlt' : (i : Int) < out.length := by omega
    obtain ⟨lt, ix, opt, get, ⟨t, sl⟩, wr_, mem⟩ := at_ok (e := elG) hv hlt (by omega)
    generalize out[i]'hlt = y at opt get mem
    have hle := fun H => ref_Less y e.x H
    have hw : IntKind.i64.wrap ((i : Int) + 1) = (i : Int) + 1 := wrap_i64' (by omega) (by omega)
    have hlx : (elC y).length = 5 := rfl
    have htx : List.take 5 (elC y) = elC y := rfl
    rw [sl] at q3
    have hfd : lessP e.x y = lessE y e.x := rfl
    cases hb : lessE y e.x with
    | true =>
      rw [hb] at hle
      simp [L0_hedgerowref07_Elems, q3, q5, q6, hl, hlt', ix, opt, e1, e6, hlx, htx, hle, hw]
      refine ⟨out.length - (i + 1), by omega, i + 1, rfl, by omega, by simp, fun k hk z hz => ?_⟩
      rcases Nat.lt_or_ge k i with h | h
      · exact lo k h z hz
      · have : k = i := by omega
        rw [this, opt] at hz
        injection hz with hz
        rw [← hz, hfd, hb]
    | false =>
      rw [hb] at hle
      have hx := ix_of (p := lessP e.x) hi lo (fun z hz => by rw [opt] at hz; injection hz with hz; rw [← hz, hfd, hb])
      simp [L0_hedgerowref07_Elems, q3, q5, q6, hl, hlt', ix, opt, e1, e6, hlx, htx, hle, hw]
      exact fun hf' => hk _ _ (by simp [q6, hx]) hf'
  · have hie : i = out.length := by omega
    have hx := ix_of (p := lessP e.x) hi lo (fun z hz => by rw [hie] at hz; simp at hz)
    simp [L0_hedgerowref07_Elems, q3, q6, hl, hu, hok, hlt]
    exact fun hf' => hk _ _ (by simp [q6, hx]) hf'

theorem addE_len (out : List El) (x : El) : (addE out x).length ≤ out.length + 1 := by
  unfold addE; split
  · omega
  · rw [insP_len]; exact Nat.le_refl _
theorem elemsE_len (R : List Evt) : (elemsE R).length ≤ R.length := by
  suffices h : ∀ (l : List Evt) (out : List El), (l.foldl addEv out).length ≤ out.length + l.length by
    have := h R []; simpa [elemsE] using this
  intro l
  induction l with
  | nil => intro out; simp
  | cons e l ih => intro out; rw [List.foldl_cons, List.length_cons]; have h1 := ih (addEv out e); have h2 : (addEv out e).length ≤ out.length + 1 := addE_len out e.x; omega

theorem elems_loop {R : List Evt} (hR : R.length ≤ 500) (hof : ∀ y ∈ R, EvFit y) (vr : GV) (hvr : Elems 27 vr (R.map evG)) (l0 : List GV) (g0 : Nat) (H0 : GH) (hbt : H0.bt ≤ H0.toks.length) (K : GExit × St → Prop)
    (h7 : lget l0 7 = vr) (h8 : lget l0 8 = .int .i64 R.length) (h9 : lget l0 9 = .int .i64 0) (h3 : lget l0 3 = .nilsl)
    (he : ∀ l g H v, lget l 3 = v → Elems 5 v ((elemsE R).map elG) → TokStep none H0 H → Fr L1_hedgerowref07_Elems l0 l → K (.exit 0, ⟨⟨l, g⟩, H⟩)) :
    optW (erun T (.loop L1_hedgerowref07_Elems) ⟨⟨l0, g0⟩, H0⟩) K := by
  refine range_loop (T := T) (n := R.length) (A := GV) (fun _ s => [(3, s)]) (fun i s _ H' => Elems 5 s ((elemsE (R.take i)).map elG) ∧ TokStep none H0 H') (c := 10) (b := 0) (I := 9) (N := 8) (d := 54) rfl (by omega) (by decide) ⟨rfl, rfl⟩ (by simp) ?_ ?_ 0 .nilsl _ _ H0 (by omega) ⟨by rw [List.take_zero]; exact .nil, .refl _ _⟩ (by simp [h3]) (.refl _ _ _) h9 h8
  · intro i s l g H' hi ⟨hE, hT⟩ hh hf hI
    have h7' := hf.get 7 rfl h7 (by simp [hvr.boxy])
    obtain ⟨lt, ix, opt, get, ⟨t, sv⟩, wr_, mem⟩ := at_ok (e := evG) hvr hi (by omega)
    generalize R[i]'hi = e at opt get mem
    have hfe := hof e mem
    have l1 := ev_len hfe.past
    have l4 : List.take 27 (evC e) = evC e := List.take_of_length_le (by rw [l1]; exact Nat.le_refl _)
    have lo := ev_one hfe.past
    have sp := ev_set hfe.past
    have l6 := ev_el hfe.past
    have hst : elemsE (R.take (i + 1)) = addE (elemsE (R.take i)) e.x := by
      unfold elemsE; rw [foldl_take addEv [] R i e opt, addEv]
    have hol := elemsE_len (R.take i)
    rw [List.length_take, Nat.min_eq_left (by omega)] at hol
    rw [hst]
    generalize elemsE (R.take i) = out at hE hol
    simp only [Holds_cons, Holds_nil, and_true] at hh
    rw [sv] at h7'
    have hu := elemsUnbox hE
    have hl := hE.len
    have hk := hE.ok
    simp only [List.length_map] at hl
    simp [h7', hI, hh, ix, opt, get, sp, l1, l4, lo]
    rw [wp_blockK, wp_seqK, wp_blockK]
    refine elems_in e hfe out (by omega) s hE g _ _ H' _ (by simp [hh]) (by simp) (by simp) ?_
    intro l2 g2 k6 hf2
    have k3 := hf2.get 3 rfl (v := s) (by simp [hh]) (by simp [hE.boxy])
    have k5 := hf2.get 5 rfl (v := .lbox g (evC e)) (by simp) rfl
    have hix := ix_le (lessP e.x) out
    have hb := hT.btle hbt
    unfold addE insP
    generalize ixP (lessP e.x) out = k at k6 hix
    have go : out[k]? ≠ some e.x → lget l2 3 = s → True := fun _ _ => trivial
    have g1 : gBounds (out.map elG).length false true false [.int .i64 (k : Int)] = some (0, k, none) := by
      simp only [gBounds, List.length_map, gBound_nat' hix, Option.map_some]
    have g2' : gBounds (out.map elG).length true false false [.int .i64 (k : Int)] = some (k, out.length, none) := by
      simp only [gBounds, List.length_map, gBound_nat' hix, Option.map_some]
    obtain ⟨c1, d1, e1⟩ := hE.cut g1
    obtain ⟨c2, d2, e2⟩ := hE.cut g2'
    have o1 := e1.ok
    have o2 := e2.ok
    obtain ⟨m, H1, n, H2, r, H3, b1, b2, b3, b4, b5, b6, b7, b8⟩ := append_three (H := H') (ty := 24) (bytes := 72) (z := elG e.x) e1 e2 (by simp [gNews]) hb (by simp; omega) (by omega)
    have hx : ((out.map elG).drop 0).take (k - 0) ++ elG e.x :: ((out.map elG).drop k).take (out.length - k) = (out.take k ++ e.x :: out.drop k).map elG := by
      rw [List.drop_zero, Nat.sub_zero, List.map_append, List.map_cons, List.map_take, List.map_drop, List.take_of_length_le (l := (out.map elG).drop k) (by simp)]
    rw [hx] at b7
    have hlx : (elC e.x).length = 5 := rfl
    have htx : List.take 5 (elC e.x) = elC e.x := rfl
    have hone : (elC e.x).all GV.one = true := rfl
    by_cases hlt : k < out.length
    · have hne : ¬ (k : Int) = out.length := by omega
      have hne' : ¬ k = out.length := by omega
      obtain ⟨_, kx, kopt, kget, ⟨kt, ksl⟩, _, kmem⟩ := at_ok (e := elG) hE hlt (by omega)
      generalize out[k]'hlt = y at kopt kget kmem
      have le := leaves_el y e.x
      have hly : (elC y).length = 5 := rfl
      have hty : List.take 5 (elC y) = elC y := rfl
      by_cases hy : y = e.x
      · rw [if_pos (by rw [kopt, hy])]
        rw [hy] at le kopt kget
        have k3' := k3
        rw [ksl] at k3
        simp [k3, k5, k6, hl, hu, hk, hne, hne', kx, kopt, l1, l6, le, hlx, htx]
        exact fun _ => ⟨by rw [← ksl]; exact hE, hT⟩
      · rw [if_neg (by rw [kopt]; intro h; injection h with h; exact hy h)]
        rw [decide_eq_false hy] at le
        subst ksl
        simp [-geff_slsl, k3, k5, k6, hl, hne, hne', kx, kopt, l1, l6, le, hly, hty, hlx, htx, hone, d1, d2, o1, o2, gSetAll, gFill, b1, b2, b3, b4, b5, b6]
        exact fun _ => ⟨by simpa using b7, hT.trans b8⟩
    · have hke : k = out.length := by omega
      subst hke
      rw [if_neg (by simp)]
      simp [k3, k5, k6, hl, hu, hk, l1, l6, hlx, htx, hone, d1, d2, o1, o2, gSetAll, gFill, b1, b2, b3, b4, b5, b6]
      exact fun _ => ⟨by simpa using b7, hT.trans b8⟩
  · intro s l g H' ⟨hE, hT⟩ hh hf
    simp only [Holds_cons, Holds_nil, and_true] at hh
    rw [List.take_length] at hE
    exact he l g H' s hh hE hT hf

theorem ref_Elems {R : List Evt} (hR : R.length ≤ 500) (hof : ∀ y ∈ R, EvFit y) (vr : GV) (hvr : Elems 27 vr (R.map evG)) (H : GH) (hbt : H.bt ≤ H.toks.length) :
    ∃ v H', ecall T f_hedgerowref07_Elems [vr] H = some (v, H') ∧ Elems 5 v ((elemsE R).map elG) ∧ TokStep none H H' := by
  have hl := hvr.len
  have hu := elemsUnbox hvr
  have hk := hvr.ok
  simp only [List.length_map] at hl
  have key : optW (ecall T f_hedgerowref07_Elems [vr] H) fun r => ∃ v H', r = (v, H') ∧ Elems 5 v ((elemsE R).map elG) ∧ TokStep none H H' := by
    rw [ecall_0 T_hedgerowref07_Elems rfl (by simp [F_hedgerowref07_Elems]), wp_fin1]
    simp only [F_hedgerowref07_Elems, b_hedgerowref07_Elems]
    simp [hl, hu, hk]
    rw [wp_seqK, wp_blockK]
    refine elems_loop hR hof vr hvr _ _ H hbt _ (by simp [hu]) (by simp) (by simp) (by simp) ?_
    intro l g H' v k3 hE hT hf
    have ok := hE.ok
    simp [k3, ok]
    exact ⟨v, H', ⟨rfl, rfl⟩, hE, hT⟩
  obtain ⟨r, h, v, H', rfl, h2⟩ := key
  exact ⟨v, H', h, h2⟩

/-! ## Are entries those of events? -/

theorem ordD_same {x y : Ent} : ordD x y = 0 ↔ x.r = y.r ∧ x.c = y.c := by
  rw [ordD_eq]
  constructor
  · intro h
    have := (thenC_ok cmpI_ok cmpI_ok).zero _ _ h
    injection this with h1 h2
    exact ⟨h1, h2⟩
  · rintro ⟨h1, h2⟩
    rw [h1, h2]
    exact (thenC_ok cmpI_ok cmpI_ok).self _
theorem ordD_swap (x y : Ent) : ordD y x = - ordD x y := by
  rw [ordD_eq, ordD_eq]; exact (thenC_ok cmpI_ok cmpI_ok).swap _ _

theorem firstE_ord (e y : Evt) : firstE e y = true ↔ ordD (evEnt y) (evEnt e) < 0 := (ordD_first (evEnt y) (evEnt e)).symm

theorem insP_cons {α : Type} {p : α → Bool} {e y : α} {out : List α} : insP p e (y :: out) = if p y then y :: insP p e out else e :: y :: out := by
  unfold insP ixP
  rw [List.takeWhile_cons]
  split <;> simp
theorem insP_perm {α : Type} (p : α → Bool) (e : α) (out : List α) : (insP p e out).Perm (e :: out) := by
  unfold insP
  refine List.perm_middle.trans ?_
  rw [List.take_append_drop]

theorem ins_dots {e : Evt} : ∀ {out : List Evt}, Dots (out.map evEnt) → (∀ y ∈ out, ¬ (y.r = e.r ∧ y.c = e.c)) → Dots ((insP (firstE e) e out).map evEnt)
  | [], _, _ => by
    have : insP (firstE e) e [] = [e] := rfl
    rw [this]; exact List.pairwise_singleton _ _
  | y :: out, h, hn => by
    unfold Dots at h
    rw [List.map_cons, List.pairwise_cons] at h
    rw [insP_cons]
    split
    · rename_i hf
      have ih := ins_dots (e := e) (out := out) h.2 fun z hz => hn z (List.mem_cons_of_mem _ hz)
      unfold Dots at ih ⊢
      rw [List.map_cons, List.pairwise_cons]
      refine ⟨fun z hz => ?_, ih⟩
      obtain ⟨w, hw, rfl⟩ := List.mem_map.1 hz
      rcases insP_mem.1 hw with rfl | hw
      · exact (firstE_ord _ _).1 hf
      · exact h.1 _ (List.mem_map_of_mem hw)
    · rename_i hf
      have h1 : ¬ ordD (evEnt y) (evEnt e) < 0 := fun hc => hf ((firstE_ord e y).2 hc)
      have h2 : ordD (evEnt y) (evEnt e) ≠ 0 := fun hc => hn y List.mem_cons_self (ordD_same.1 hc)
      have h3 := ordD_swap (evEnt y) (evEnt e)
      have h4 : ordD (evEnt e) (evEnt y) < 0 := by omega
      unfold Dots
      rw [List.map_cons, List.pairwise_cons, List.map_cons, List.pairwise_cons]
      refine ⟨fun z hz => ?_, h.1, h.2⟩
      rcases List.mem_cons.1 hz with rfl | hz
      · exact h4
      · exact ordD_trans h4 (h.1 z hz)

theorem sort_dots : ∀ (l : List Evt) (out : List Evt), Dots (out.map evEnt) → l.Pairwise (fun a b => ¬ (a.r = b.r ∧ a.c = b.c)) → (∀ y ∈ out, ∀ e ∈ l, ¬ (y.r = e.r ∧ y.c = e.c)) → Dots ((l.foldl (fun out e => insP (firstE e) e out) out).map evEnt) ∧ (l.foldl (fun out e => insP (firstE e) e out) out).Perm (out ++ l)
  | [], out, h, _, _ => ⟨h, by rw [List.append_nil]; exact .refl _⟩
  | e :: l, out, h, hp, hn => by
    rw [List.pairwise_cons] at hp
    rw [List.foldl_cons]
    have h1 := ins_dots (e := e) h fun y hy => hn y hy e List.mem_cons_self
    obtain ⟨h2, h3⟩ := sort_dots l (insP (firstE e) e out) h1 hp.2 fun y hy a ha => by
      rcases insP_mem.1 hy with rfl | hy
      · exact hp.1 a ha
      · exact hn y hy a (List.mem_cons_of_mem _ ha)
    exact ⟨h2, h3.trans (((insP_perm _ _ _).append_right l).trans List.perm_middle.symm)⟩

/-- What a store has of an element are the entries of what is left. -/
theorem live_sorted {R : List Evt} (h : Row R) (x : El) : getS (doAll R) x = (sortE (live R x)).map evEnt := by
  have hp : (live R x).Pairwise fun a b => ¬ (a.r = b.r ∧ a.c = b.c) := (causl_dots rfl h.causl).filter _
  obtain ⟨h1, h2⟩ := sort_dots (live R x) [] List.Pairwise.nil hp (fun y hy => by cases hy)
  exact dots_eq (h.good.dots x) h1 ((live_all h x).trans ((h2.map _).symm))

theorem same_entries {F : List Evt} (hF : F.length ≤ 500) (hof : ∀ y ∈ F, EvFit y) (va : GV) (hva : Elems 5 va (((sortE F).map evEnt).map entG)) (vl : GV) (hvl : Elems 27 vl (F.map evG)) (H : GH) (hbt : H.bt ≤ H.toks.length) :
    ∃ H', ecall T f_hedgerowlaw07_sameEntries [va, vl] H = some (.bool true, H') ∧ TokStep none H H' := by
  obtain ⟨vs, H1, hsr, hE, hT⟩ := ref_Sorted hF hof vl hvl H hbt
  have au := elemsUnbox hva
  have ak := hva.ok
  have al := hva.len
  have lu := elemsUnbox hvl
  have lk := hvl.ok
  have su := elemsUnbox hE
  have sk := hE.ok
  have sl := hE.len
  simp only [List.length_map, sortE_len] at al sl
  have hom : ∀ y ∈ sortE F, EvFit y := fun y hy => hof y ((sortE_mem _ _).1 hy)
  have key : optW (ecall T f_hedgerowlaw07_sameEntries [va, vl] H) fun r => ∃ H', r = (.bool true, H') ∧ TokStep none H H' := by
    rw [ecall_0 T_hedgerowlaw07_sameEntries rfl (by simp [F_hedgerowlaw07_sameEntries]), wp_fin1]
    simp only [F_hedgerowlaw07_sameEntries, b_hedgerowlaw07_sameEntries]
    simp [au, ak, al, lu, lk, hsr, su, sk, sl]
    rw [wp_seqK, wp_blockK]
    refine range_loop (T := T) (n := F.length) (A := Unit) (fun _ _ => []) (fun i _ _ H' => H' = H1) (c := 17) (b := 0) (I := 16) (N := 15) (d := 43) rfl (by omega) (by decide) ⟨rfl, rfl⟩ (by simp) ?_ ?_ 0 () _ _ H1 (by omega) rfl (by simp) (.refl _ _ _) (by simp) (by simp)
    · intro i u l g H' hi hH hh hf hI
      subst hH
      have h0' := hf.get 0 rfl (v := va) (by simp [au]) (by simp [hva.boxy])
      have h5' := hf.get 5 rfl (v := vs) (by simp [su]) (by simp [hE.boxy])
      have hi' : i < (sortE F).length := by rw [sortE_len]; exact hi
      have hi2 : i < ((sortE F).map evEnt).length := by rw [List.length_map]; exact hi'
      have hsl := sortE_len F
      have hml : ((sortE F).map evEnt).length = F.length := by rw [List.length_map, hsl]
      obtain ⟨_, ix1, opt1, _, ⟨t1, sl1⟩, _, _⟩ := at_ok (e := entG) hva hi2 (by omega)
      obtain ⟨_, ix2, opt2, _, ⟨t2, sl2⟩, _, mem⟩ := at_ok (e := evG) hE hi' (by omega)
      have e1 : ((sortE F).map evEnt)[i]'hi2 = evEnt ((sortE F)[i]'hi') := by simp
      rw [e1] at opt1
      generalize (sortE F)[i]'hi' = y at opt1 opt2 mem
      have hfy := hom y mem
      have y1 := ev_len hfy.past
      have y3 := ev_dot y
      have y7 := ev_val hfy.past
      have ld := leaves_dot y.r y.c y.r y.c
      have lv := leaves_val y.vk y.vn y.vt y.vk y.vn y.vt
      have o1 : (sortE F)[i]? = some y := opt2
      rw [sl1] at h0'
      rw [sl2] at h5'
      simp only [List.length_map, sortE_len] at ix1 ix2
      simp [h0', h5', hI, ix1, ix2, sortE_len, o1, entC, evEnt, y1, y3, y7, ld, lv]
    · intro u l g H' hH hh hf
      subst hH
      simp
      exact hT
  obtain ⟨r, h, H', rfl, h2⟩ := key
  exact ⟨H', h, h2⟩
end Go.Proofs.YthmplnbogdfajaaGreatDoor

namespace Go.Proofs.YthmplnbogdfajaaGreatDoor
open Go.Sh
set_option maxHeartbeats 4000000
set_option maxRecDepth 100000

/-! ## Entries of any element -/

theorem el_key' {x : El} (h : ElBig x) (hr : ElRange x) : keyOk true kLs (elG x) = true := by
  obtain ⟨h1, h2⟩ := hr
  have := h.a; have := h.b; have := h.c; have := h.d
  simp [keyOk, elC, keyFits, maxLen, IntKind.min, IntKind.max, IntKind.signed, IntKind.bits]
  omega

theorem has_dec' {x : El} (hk : keyOk true kLs (elG x) = true) : ∀ {es : List (GV × GV)} {S : List Stp}, mapO decP es = some S → Has es x (getS S x)
  | [], S, h => by simp only [mapO, Option.some.injEq] at h; subst h; exact .inl ⟨rfl, rfl⟩
  | p :: es, S, h => by
    simp only [mapO] at h
    split at h
    · rename_i a b ha hb
      injection h with h; subst h
      have ih := has_dec' hk hb
      have hke : keyEq p.1 (elG x) = decide (a.1 = x) := by
        obtain ⟨e1, _, o1⟩ := decP_eq ha
        rw [e1, Bool.eq_iff_iff, keyEq_iff (el_key o1.fit o1.range) hk, decide_eq_true_eq]
        exact ⟨elG_inj, fun h => by rw [h]⟩
      unfold Has mapGet getS at ih ⊢
      rw [List.find?_cons, List.find?_cons, hke]
      by_cases e : a.1 = x
      · simp only [e, decide_true]
        obtain ⟨_, ⟨t, ht⟩, _⟩ := decP_eq ha
        exact .inr ⟨p.2, rfl, by rw [ht]; exact .sl _ _⟩
      · simp only [e, decide_false]; exact ih
    · cases h

theorem entries_ok {H : GH} {s m : Nat} {S : List Stp} (h : Sto H s m S) (x : El) (hk : keyOk true kLs (elG x) = true) (hL : (getS S x).length ≤ 1000000) (hbo : H.bo ≤ H.objs.length) :
    ∃ v', ecall T f_store_Store_Entries [.ptr s 0, .agg (elC x)] H = some (v', killH (getS S x) H) ∧ Elems 5 v' ((getS S x).map entG) := by
  obtain ⟨⟨es, ⟨h1, h2, h3⟩, hd⟩, _⟩ := h
  have hv := has_dec' hk hd
  generalize getS S x = L at hv hL
  obtain ⟨w, c1, c2⟩ := clone_ent L _ hv.get hL H
  obtain ⟨v', hf, hE⟩ := freeze_ent c2 hbo
  refine ⟨v', ?_, hE⟩
  have hok' : w.ok = true := by rcases c2.elems with ⟨_, h⟩ | ⟨_, h⟩; exact h.ok; subst h; rfl
  have hu' : ∀ t, unbox t w = w := by rcases c2.elems with ⟨_, h⟩ | ⟨_, h⟩; exact elemsUnbox h; subst h; exact fun _ => rfl
  have gok := hv.get.ok
  have gu := elemsUnbox hv.get
  have vok := hE.ok
  have vu := elemsUnbox hE
  apply optW.eq
  rw [ecall_0 T_store_Store_Entries rfl (by simp [F_store_Store_Entries]), wp_fin1]
  simp only [elG, elC] at hk c1 gok gu
  simp [F_store_Store_Entries, b_store_Store_Entries, elC, h1, h2, hk, c1, hok', hu', hf, gok, gu, vok, vu, geff_freeze, freeze_nil]

theorem has_ok {H : GH} {s m : Nat} {S : List Stp} (h : Sto H s m S) (x : El) (hk : keyOk true kLs (elG x) = true) :
    ecall T f_store_Store_Has [.ptr s 0, .agg (elC x)] H = some (.bool (decide (0 < (getS S x).length)), H) := by
  obtain ⟨⟨es, ⟨h1, h2, h3⟩, hd⟩, _⟩ := h
  have hv := has_dec' hk hd
  generalize getS S x = L at hv
  have gok := hv.get.ok
  have gu := elemsUnbox hv.get
  have gl := hv.get.len
  simp only [List.length_map] at gl
  apply optW.eq
  rw [ecall_0 T_store_Store_Has rfl (by simp [F_store_Store_Has]), wp_fin1]
  simp only [elG, elC] at hk gok gu gl
  simp [F_store_Store_Has, b_store_Store_Has, elC, h1, h2, hk, gok, gu, gl]

/-! ## Elements in order, and all items -/

theorem addE_cons {x y : El} {out : List El} : addE (y :: out) x = if lessP x y then y :: addE out x else if y = x then y :: out else x :: y :: out := by
  unfold addE
  have hi : ixP (lessP x) (y :: out) = if lessP x y then ixP (lessP x) out + 1 else 0 := by
    unfold ixP; rw [List.takeWhile_cons]; split <;> simp
  rw [hi]
  by_cases h : lessP x y
  · rw [if_pos h, if_pos h, List.getElem?_cons_succ]
    split
    · rfl
    · rw [insP_cons, if_pos h]
  · rw [if_neg h, if_neg h]
    by_cases h2 : y = x
    · rw [if_pos h2, if_pos (by rw [h2]; rfl)]
    · rw [if_neg h2, if_neg (by simpa using h2), insP_cons, if_neg h]

def Rise (l : List El) : Prop := l.Pairwise fun a b => ordE a b < 0

theorem ordE_trans {x y z : El} (h1 : ordE x y < 0) (h2 : ordE y z < 0) : ordE x z < 0 := by
  have hs := ordE_ok.swo fun p : El => p
  have := hs.trans x y z (decide_eq_true h1) (decide_eq_true h2)
  simpa using this

theorem addE_mem {x z : El} : ∀ {out : List El}, z ∈ addE out x ↔ z = x ∨ z ∈ out
  | [] => by
    have : addE [] x = [x] := rfl
    rw [this]; simp
  | y :: out => by
    rw [addE_cons]
    split
    · rw [List.mem_cons, addE_mem, List.mem_cons]
      constructor
      · rintro (h | h | h)
        · exact .inr (.inl h)
        · exact .inl h
        · exact .inr (.inr h)
      · rintro (h | h | h)
        · exact .inr (.inl h)
        · exact .inl h
        · exact .inr (.inr h)
    · split
      · rename_i h
        rw [List.mem_cons]
        constructor
        · exact fun h2 => .inr h2
        · rintro (h2 | h2)
          · exact .inl (by rw [h2, h])
          · exact h2
      · rw [List.mem_cons]

theorem addE_rise {x : El} : ∀ {out : List El}, Rise out → Rise (addE out x)
  | [], _ => by
    have : addE [] x = [x] := rfl
    rw [this]; exact List.pairwise_singleton _ _
  | y :: out, h => by
    unfold Rise at h
    rw [List.pairwise_cons] at h
    rw [addE_cons]
    split
    · rename_i hl
      have ih := addE_rise (x := x) h.2
      refine List.pairwise_cons.2 ⟨fun z hz => ?_, ih⟩
      rcases addE_mem.1 hz with rfl | hz
      · simpa [lessP, lessE] using hl
      · exact h.1 z hz
    · rename_i hl
      split
      · exact List.pairwise_cons.2 h
      · rename_i hn
        have h1 : ¬ ordE y x < 0 := by simpa [lessP, lessE] using hl
        have h2 : ordE y x ≠ 0 := fun e => hn (ordE_ok.zero _ _ e)
        have h3 := ordE_ok.swap y x
        have h4 : ordE x y < 0 := by omega
        refine List.pairwise_cons.2 ⟨fun z hz => ?_, List.pairwise_cons.2 h⟩
        rcases List.mem_cons.1 hz with rfl | hz
        · exact h4
        · exact ordE_trans h4 (h.1 z hz)

theorem elemsE_ok (R : List Evt) : Rise (elemsE R) ∧ ∀ z, z ∈ elemsE R ↔ ∃ e ∈ R, e.x = z := by
  suffices h : ∀ (l : List Evt) (out : List El), Rise out → Rise (l.foldl addEv out) ∧ ∀ z, z ∈ l.foldl addEv out ↔ z ∈ out ∨ ∃ e ∈ l, e.x = z by
    have := h R [] List.Pairwise.nil
    exact ⟨this.1, fun z => (this.2 z).trans (by simp)⟩
  intro l
  induction l with
  | nil => intro out h; exact ⟨h, fun z => by simp⟩
  | cons e l ih =>
    intro out h
    obtain ⟨h1, h2⟩ := ih (addEv out e) (addE_rise h)
    refine ⟨h1, fun z => ?_⟩
    rw [List.foldl_cons, h2]
    unfold addEv
    rw [addE_mem]
    constructor
    · rintro ((h3 | h3) | ⟨a, ha, h3⟩)
      · exact .inr ⟨e, List.mem_cons_self, h3.symm⟩
      · exact .inl h3
      · exact .inr ⟨a, List.mem_cons_of_mem _ ha, h3⟩
    · rintro (h3 | ⟨a, ha, h3⟩)
      · exact .inl (.inr h3)
      · rcases List.mem_cons.1 ha with rfl | ha
        · exact .inl (.inl h3.symm)
        · exact .inr ⟨a, ha, h3⟩

def heldB (S : List Stp) (x : El) : Bool := !decide (getS S x = [])
def allOf (S : List Stp) (X : List El) : List Stp := (X.filter (heldB S)).map fun x => (x, getS S x)

theorem rise_all {S : List Stp} {X : List El} (h : Rise X) : (allOf S X).Pairwise fun p q => ordE p.1 q.1 < 0 := by
  unfold allOf
  rw [List.pairwise_map]
  exact h.filter _

/-- All items: those of the row's elements, in order. -/
theorem sort_all {R : List Evt} (h : Row R) {H : GH} {s m : Nat} (hS : Sto H s m (doAll R)) : sortS (doAll R) = allOf (doAll R) (elemsE R) := by
  obtain ⟨hr, hm⟩ := elemsE_ok R
  have hp := rise_all (S := doAll R) hr
  have nd : (allOf (doAll R) (elemsE R)).Nodup := hp.imp fun {a b} hlt e => by
    rw [e, ordE_ok.self] at hlt; omega
  have nd2 : (doAll R).Nodup := (List.pairwise_map.1 hS.ap).imp fun h e => h (by rw [e])
  have hperm : (allOf (doAll R) (elemsE R)).Perm (doAll R) := by
    rw [List.perm_iff_count]
    intro p
    rw [nd.count, nd2.count]
    have key : p ∈ allOf (doAll R) (elemsE R) ↔ p ∈ doAll R := by
      unfold allOf
      rw [List.mem_map]
      constructor
      · rintro ⟨x, hx, rfl⟩
        have := (List.mem_filter.1 hx).2
        simp only [heldB, Bool.not_eq_true', decide_eq_false_iff_not] at this
        exact mem_getS this
      · intro hm2
        have e := getS_mem hS.ap hm2
        have hne : getS (doAll R) p.1 ≠ [] := by rw [e]; exact hS.ne_nil p hm2
        refine ⟨p.1, List.mem_filter.2 ⟨(hm p.1).2 ?_, by simp [heldB, hne]⟩, by rw [e]⟩
        have hl := live_all h p.1
        have : live R p.1 ≠ [] := fun e0 => by
          rw [e0] at hl
          exact hne hl.eq_nil
        obtain ⟨a, ha⟩ := List.exists_mem_of_ne_nil _ this
        have ha := List.mem_filter.1 ha
        have hb := ha.2
        unfold liveB at hb
        simp only [Bool.and_eq_true, decide_eq_true_eq] at hb
        exact ⟨a, ha.1, hb.1.1⟩
    by_cases hc : p ∈ doAll R
    · rw [if_pos hc, if_pos (key.2 hc)]
    · rw [if_neg hc, if_neg (fun h2 => hc (key.1 h2))]
  have h1 := isort_perm_eq hperm (apart_of.2 hS.ap)
  unfold sortS
  rw [← h1]
  refine (sorted_one (l := allOf (doAll R) (elemsE R)) (.refl _) (hp.imp fun {a b} hlt => ?_) cfS_swo fun a b ha hb e1 e2 => ?_).symm
  · have := ordE_ok.swap a.1 b.1
    show decide (ordE b.1 a.1 < 0) = false
    exact decide_eq_false (by omega)
  · have e1 : decide (ordE a.1 b.1 < 0) = false := e1
    have e2 : decide (ordE b.1 a.1 < 0) = false := e2
    have h2 := of_decide_eq_false e1
    have h3 := of_decide_eq_false e2
    have h4 := ordE_ok.swap a.1 b.1
    have h5 : a.1 = b.1 := ordE_ok.zero _ _ (by omega)
    obtain ⟨x, _, rfl⟩ := List.mem_map.1 ha
    obtain ⟨y, _, rfl⟩ := List.mem_map.1 hb
    have h5 : x = y := h5
    rw [h5]

theorem all_at {S : List Stp} {X : List El} {i : Nat} {x : El} (hi : X[i]? = some x) (hx : getS S x ≠ []) : (allOf S X)[(allOf S (X.take i)).length]? = some (x, getS S x) ∧ allOf S (X.take (i + 1)) = allOf S (X.take i) ++ [(x, getS S x)] := by
  have hlt := (List.getElem?_eq_some_iff.1 hi).1
  have hb : heldB S x = true := by simp [heldB, hx]
  have ht : X.take (i + 1) = X.take i ++ [x] := by rw [List.take_add_one, hi]; rfl
  have e2 : allOf S (X.take (i + 1)) = allOf S (X.take i) ++ [(x, getS S x)] := by
    unfold allOf
    rw [ht, List.filter_append, List.map_append, List.filter_cons, hb]; rfl
  refine ⟨?_, e2⟩
  have e1 : allOf S X = allOf S (X.take (i + 1)) ++ allOf S (X.drop (i + 1)) := by
    unfold allOf
    rw [← List.map_append, ← List.filter_append, List.take_append_drop]
  rw [e1, e2]
  simp
theorem all_skip {S : List Stp} {X : List El} {i : Nat} {x : El} (hi : X[i]? = some x) (hx : getS S x = []) : allOf S (X.take (i + 1)) = allOf S (X.take i) := by
  have ht : X.take (i + 1) = X.take i ++ [x] := by rw [List.take_add_one, hi]; rfl
  unfold allOf
  rw [ht, List.filter_append, List.filter_cons]
  simp [heldB, hx]
theorem cnt_all {S : List Stp} {X : List El} {i : Nat} {x : El} (hi : X[i]? = some x) : cntS (allOf S (X.take (i + 1))) = cntS (allOf S (X.take i)) + (getS S x).length := by
  by_cases hx : getS S x = []
  · rw [all_skip hi hx, hx]; rfl
  · rw [(all_at hi hx).2]
    unfold cntS
    rw [List.map_append, List.sum_append]; simp
end Go.Proofs.YthmplnbogdfajaaGreatDoor

namespace Go.Proofs.YthmplnbogdfajaaGreatDoor
open Go.Sh
set_option maxHeartbeats 4000000
set_option maxRecDepth 100000

/-! ## StoreLive -/

/-- StoreLive: the loop of Do. -/
theorem live_dos {R : List Evt} (hR : Row R) (vr : GV) (hvr : Elems 27 vr (R.map evG)) (s m : Nat) (l0 : List GV) (g0 : Nat) (H0 : GH) (hS : Sto H0 s m []) (hbo : H0.bo ≤ H0.objs.length) (K : GExit × St → Prop)
    (h27 : lget l0 27 = vr) (h28 : lget l0 28 = .int .i64 R.length) (h29 : lget l0 29 = .int .i64 0) (h7 : lget l0 7 = .ptr s 0) (b3 : GV) (h3 : lget l0 3 = b3)
    (he : ∀ l g H, lget l 3 = b3 → Sto H s m (doAll R) → Stepm m H0 H → Fr L0_hedgerowlaw07_StoreLive l0 l → K (.exit 0, ⟨⟨l, g⟩, H⟩)) :
    optW (erun T2 (.loop L0_hedgerowlaw07_StoreLive) ⟨⟨l0, g0⟩, H0⟩) K := by
  have hle := hR.le
  refine range_loop (T := T2) (n := R.length) (A := Unit) (fun _ _ => [(3, b3)]) (fun i _ _ H' => Sto H' s m (doAll (R.take i)) ∧ Stepm m H0 H') (c := 30) (b := 0) (I := 29) (N := 28) (d := 37) rfl (by omega) (by decide) ⟨rfl, rfl⟩ (by simp) ?_ ?_ 0 () _ _ H0 (by omega) ⟨hS, .refl _ _⟩ (by simp [h3]) (.refl _ _ _) h29 h28
  · intro i a l g H' hi ⟨hA, hSt⟩ hh hf hI
    have h27' := hf.get 27 rfl h27 (by simp [hvr.boxy])
    have h7' := hf.get 7 rfl h7 rfl
    obtain ⟨lt, ix, opt, get, ⟨t, sv⟩, wr_, mem⟩ := at_ok (e := evG) hvr hi (by omega)
    generalize R[i]'hi = e at opt get mem
    have hfe := hR.fit e mem
    have l1 := ev_len hfe.past
    have l4 : List.take 27 (evC e) = evC e := List.take_of_length_le (by rw [l1]; exact Nat.le_refl _)
    have lo := ev_one hfe.past
    have sp := ev_set hfe.past
    obtain ⟨H1, hd, hA1, hSt1⟩ := hR.step opt hA (hSt.bole hbo)
    rw [sv] at h27'
    simp only [Holds_cons, Holds_nil, and_true] at hh
    simp [hh, h27', h7', hI, ix, opt, get, sp, l1, l4, lo, hd]
    exact fun _ => ⟨hA1, hSt.trans hSt1⟩
  · intro a l g H' ⟨hA, hSt⟩ hh hf
    rw [List.take_length] at hA
    simp only [Holds_cons, Holds_nil, and_true] at hh
    exact he l g H' hh hA hSt hf


/-- A heap that has grown, and got tokens. -/
structure Gr (H H' : GH) : Prop where
  bo : H'.bo = H.bo
  bt : H'.bt = H.bt
  len : H.objs.length ≤ H'.objs.length
  tl : H.toks.length ≤ H'.toks.length
  keep : ∀ (i : Nat) (o : GObj), H.objs[i]? = some o → H'.objs[i]? = some o
theorem Gr.refl (H : GH) : Gr H H := ⟨rfl, rfl, Nat.le_refl _, Nat.le_refl _, fun _ _ h => h⟩
theorem Gr.trans {H H1 H2 : GH} (h : Gr H H1) (h' : Gr H1 H2) : Gr H H2 := ⟨h'.bo.trans h.bo, h'.bt.trans h.bt, Nat.le_trans h.len h'.len, Nat.le_trans h.tl h'.tl, fun i o ho => h'.keep i o (h.keep i o ho)⟩
theorem Gr.tok {own : Option Nat} {H H1 : GH} (h : TokStep own H H1) : Gr H H1 := ⟨h.bo, h.bt, by rw [h.objs]; exact Nat.le_refl _, h.len, fun i o ho => by rw [h.objs]; exact ho⟩
theorem Gr.more {H H1 : GH} (h : More H H1) : Gr H H1 := by
  obtain ⟨a, rfl⟩ := h
  exact ⟨rfl, rfl, by simp, Nat.le_refl _, fun i o ho => by
    show (H.objs ++ a)[i]? = some o
    rw [List.getElem?_append_left (List.getElem?_eq_some_iff.1 ho).1]; exact ho⟩
theorem Gr.bole {H H1 : GH} (h : Gr H H1) (hb : H.bo ≤ H.objs.length) : H1.bo ≤ H1.objs.length := by rw [h.bo]; exact Nat.le_trans hb h.len
theorem Gr.btle {H H1 : GH} (h : Gr H H1) (hb : H.bt ≤ H.toks.length) : H1.bt ≤ H1.toks.length := by rw [h.bt]; exact Nat.le_trans hb h.tl
theorem Gr.sto {H H1 : GH} (h : Gr H H1) {s m : Nat} {S : List Stp} (hS : Sto H s m S) : Sto H1 s m S := by
  obtain ⟨⟨es, ha, hd⟩, hp⟩ := hS
  exact ⟨⟨es, ⟨h.keep _ _ ha.os, h.keep _ _ ha.om, by rw [h.bo]; exact ha.bo⟩, hd⟩, hp⟩

theorem live_elems {R : List Evt} (hR : Row R) (vr : GV) (hvr : Elems 27 vr (R.map evG)) (s m : Nat) (va : GV) (hva : Elems 6 va ((allOf (doAll R) (elemsE R)).map itG)) (vx : GV) (hvx : Elems 5 vx ((elemsE R).map elG)) (b3 : GV) (l0 : List GV) (g0 : Nat) (H0 : GH) (hS : Sto H0 s m (doAll R)) (hbo : H0.bo ≤ H0.objs.length) (hbt : H0.bt ≤ H0.toks.length) (K : GExit × St → Prop)
    (h41 : lget l0 41 = vx) (h42 : lget l0 42 = .int .i64 (elemsE R).length) (h43 : lget l0 43 = .int .i64 0) (h5 : lget l0 5 = vr) (h7 : lget l0 7 = .ptr s 0) (h12 : lget l0 12 = va) (h10 : lget l0 10 = .int .i64 0) (h11 : lget l0 11 = .int .i64 0) (h3 : lget l0 3 = b3)
    (he : ∀ l g H, lget l 3 = b3 → lget l 10 = .int .i64 (cntS (allOf (doAll R) (elemsE R))) → lget l 11 = .int .i64 (allOf (doAll R) (elemsE R)).length → Gr H0 H → Fr L1_hedgerowlaw07_StoreLive l0 l → K (.exit 2, ⟨⟨l, g⟩, H⟩)) :
    optW (erun T2 (.loop L1_hedgerowlaw07_StoreLive) ⟨⟨l0, g0⟩, H0⟩) K := by
  have hRl := hR.le
  have hxl := elemsE_len R
  obtain ⟨_, hup⟩ := causl_up (v := zero16) rfl hR.causl
  have hok : ∀ e ∈ R, EvOk e := fun e he => ⟨hR.fit e he, (hup e he).1⟩
  refine range_loop (T := T2) (n := (elemsE R).length) (A := Unit) (fun i _ => [(3, b3), (10, .int .i64 (cntS (allOf (doAll R) ((elemsE R).take i)))), (11, .int .i64 (allOf (doAll R) ((elemsE R).take i)).length)]) (fun i _ _ H' => Gr H0 H') (c := 44) (b := 2) (I := 43) (N := 42) (d := 97) rfl (by omega) (by decide) ⟨rfl, rfl⟩ (by simp) ?_ ?_ 0 () _ _ H0 (by omega) (.refl _) (by simp [h3, h10, h11, allOf, cntS]) (.refl _ _ _) h43 h42
  · intro i u l g H' hi hG hh hf hI
    have h41' := hf.get 41 rfl h41 (by simp [hvx.boxy])
    have h5' := hf.get 5 rfl h5 (by simp [hvr.boxy])
    have h7' := hf.get 7 rfl h7 rfl
    have h12' := hf.get 12 rfl h12 (by simp [hva.boxy])
    have ru := elemsUnbox hvr
    have rk := hvr.ok
    have au := elemsUnbox hva
    have ak := hva.ok
    have al := hva.len
    simp only [List.length_map] at al
    obtain ⟨lt, ix, opt, get, ⟨t, sv⟩, wr_, mem⟩ := at_ok (e := elG) hvx hi (by omega)
    generalize (elemsE R)[i]'hi = x at opt get mem
    obtain ⟨ex, hex, hexx⟩ := ((elemsE_ok R).2 x).1 mem
    have hxf : ElFit x := by rw [← hexx]; exact (hR.fit ex hex).x
    have hxr : ElRange x := by rw [← hexx]; exact elem_range (evB_elem (hup ex hex).1)
    have hk := el_key hxf hxr
    have hS' := hG.sto hS
    have hbo' := hG.bole hbo
    have hbt' := hG.btle hbt
    have hlen := hR.good.len x
    -- what is left
    obtain ⟨vl, H1, hlv, hGl⟩ := ref_Live (by omega) hok vr hvr x H' hbt'
    have hlv := up hlv
    have gr1 := Gr.tok hGl.step
    have hle := hGl.app.elems
    have lk := hle.ok
    have lu := elemsUnbox hle
    have ll := hle.len
    simp only [List.length_map] at ll
    have hll : (live R x).length = (getS (doAll R) x).length := by
      have := (live_all hR x).length_eq
      rw [List.length_map] at this; exact this.symm
    rw [hll] at ll
    have hlf : ∀ y ∈ live R x, EvFit y := fun y hy => hR.fit y (List.mem_filter.1 hy).1
    -- the entries
    obtain ⟨v1, hen, hE1⟩ := entries_ok (gr1.sto hS') x hk (by omega) (gr1.bole hbo')
    have hen := up hen
    have gr2 := gr1.trans (Gr.more (killH_more (getS (doAll R) x) H1))
    rw [live_sorted hR x] at hE1
    generalize hH2 : killH (getS (doAll R) x) H1 = H2 at hen gr2
    obtain ⟨H3, hsm, hT3⟩ := same_entries (by rw [hll]; omega) hlf v1 hE1 vl hle H2 (gr2.btle hbt')
    have hsm := up hsm
    have gr3 := gr2.trans (Gr.tok hT3)
    have hha := up (has_ok (gr3.sto hS') x hk)
    have e1u := elemsUnbox hE1
    have e1k := hE1.ok
    simp only [Holds_cons, Holds_nil, and_true] at hh
    obtain ⟨hh3, hh10, hh11⟩ := hh
    have hcn := cnt_all (S := doAll R) opt
    have hclx : cntS (allOf (doAll R) ((elemsE R).take i)) ≤ 10000 := by
      have h1 := cnt_le (S := allOf (doAll R) ((elemsE R).take i)) (n := 60) fun p hp => by
        unfold allOf at hp
        obtain ⟨y, _, rfl⟩ := List.mem_map.1 hp
        have := hR.good.len y
        show (getS (doAll R) y).length ≤ 60
        omega
      have h2 : (allOf (doAll R) ((elemsE R).take i)).length ≤ 60 := by
        unfold allOf
        rw [List.length_map]
        refine Nat.le_trans (List.length_filter_le _ _) ?_
        rw [List.length_take]; omega
      have := Nat.mul_le_mul_right 60 h2
      omega
    have hatl : (allOf (doAll R) ((elemsE R).take i)).length ≤ 60 := by
      unfold allOf
      rw [List.length_map]
      refine Nat.le_trans (List.length_filter_le _ _) ?_
      rw [List.length_take]; omega
    have w1 : IntKind.i64.wrap ((cntS (allOf (doAll R) ((elemsE R).take i)) : Int) + ((getS (doAll R) x).length : Int)) = ((cntS (allOf (doAll R) ((elemsE R).take (i + 1))) : Nat) : Int) := by
      rw [wrap_i64' (by omega) (by omega), hcn]; omega
    have hlx : (elC x).length = 5 := rfl
    have htx : List.take 5 (elC x) = elC x := rfl
    have hone : (elC x).all GV.one = true := rfl
    have sp5 : setPart [GV.int .i64 0, .str ⟨#[]⟩, .str ⟨#[]⟩, .str ⟨#[]⟩, .str ⟨#[]⟩] 0 (elC x) = some (elC x) := rfl
    rw [sv] at h41'
    by_cases hx : getS (doAll R) x = []
    · have hz : (getS (doAll R) x).length = 0 := by rw [hx]; rfl
      rw [hz] at ll hha w1
      have hsk := all_skip opt hx
      simp [h41', h5', h7', h12', hI, hh3, hh10, hh11, ix, opt, get, sp5, hlx, htx, hone, hlv, lk, lu, ll, ru, rk, hen, hsm, hha, e1u, e1k, w1]
      exact fun _ => ⟨hG.trans gr3, by rw [hsk]; exact ⟨wrap_i64' (by omega) (by omega), rfl⟩⟩
    · have hz : 0 < (getS (doAll R) x).length := List.length_pos_iff.2 hx
      have hz0 : ¬ (getS (doAll R) x).length = 0 := by omega
      obtain ⟨hat, hal⟩ := all_at opt hx
      have hal' := congrArg List.length hal
      rw [List.length_append, List.length_singleton] at hal'
      have h60 : (allOf (doAll R) (elemsE R)).length ≤ 60 := by
        unfold allOf
        rw [List.length_map]
        exact Nat.le_trans (List.length_filter_le _ _) (by omega)
      have hlt := (List.getElem?_eq_some_iff.1 hat).1
      have hval := (List.getElem?_eq_some_iff.1 hat).2
      obtain ⟨_, ax, aopt, _, ⟨at_, asl⟩, _, _⟩ := at_ok (e := itG) hva hlt (by omega)
      rw [hval] at aopt
      have hlt' : ¬ ((allOf (doAll R) (elemsE R)).length : Int) ≤ ((allOf (doAll R) ((elemsE R).take i)).length : Int) := by omega
      have hlt'' : ¬ (allOf (doAll R) (elemsE R)).length ≤ (allOf (doAll R) ((elemsE R).take i)).length := by omega
      have w2 : IntKind.i64.wrap (((allOf (doAll R) ((elemsE R).take i)).length : Int) + 1) = (((allOf (doAll R) ((elemsE R).take (i + 1))).length : Nat) : Int) := by
        rw [wrap_i64' (by omega) (by omega), hal']; omega
      obtain ⟨H4, hsm4, hT4⟩ := same_entries (by rw [hll]; omega) hlf (.sl 5 ((getS (doAll R) x).map entG) .imm) (by rw [live_sorted hR x]; exact .sl _ _) vl hle H3 (gr3.btle hbt')
      have hsm4 := up hsm4
      have gr4 := gr3.trans (Gr.tok hT4)
      have le := leaves_el x x
      have icl := itG_cells (x, getS (doAll R) x)
      simp only at icl
      have hxc : [GV.int .i64 x.k, .str (mkB x.a), .str (mkB x.b), .str (mkB x.c), .str (mkB x.d)] = elC x := rfl
      generalize (allOf (doAll R) ((elemsE R).take i)).length = at1 at *
      rw [asl] at h12'
      simp [h41', h5', h7', h12', hI, hh3, hh10, hh11, ix, opt, get, sp5, hlx, htx, hone, hlv, lk, lu, ll, ru, rk, hen, hsm, hha, e1u, e1k, w1, w2, hz, hz0, hlt', hlt'', ax, aopt, icl, hxc, le, hsm4]
      exact fun _ => hG.trans gr4
  · intro u l g H' hG hh hf
    simp only [Holds_cons, Holds_nil, and_true] at hh
    rw [List.take_length] at hh
    exact he l g H' hh.1 hh.2.1 hh.2.2 hG hf

theorem storeLive_ok (E : List Evt) (hE : E.length ≤ 9223372036854775807) (hin : ∀ e ∈ E, EvIn e) (ve : GV) (hve : Elems 27 ve (E.map evG)) (z : El) (hz : ElBig z) (hzr : ElRange z) (H : GH) (hbo : H.bo ≤ H.objs.length) (hbt : H.bt ≤ H.toks.length) :
    ∃ H', ecall T2 f_hedgerowlaw07_StoreLive [ve, .agg (elC z)] H = some (.bool true, H') := by
  have hfx := fixed7_ok
  obtain ⟨fb, hfew, hfb⟩ := few_ok E hE (fun e he => (hin e he).big) ve hve H
  have hfew := up hfew
  have hlz : (elC z).length = 5 := rfl
  have htz : List.take 5 (elC z) = elC z := rfl
  have key : optW (ecall T2 f_hedgerowlaw07_StoreLive [ve, .agg (elC z)] H) fun r => ∃ H', r = (.bool true, H') := by
    rw [ecall_0 (T2_up _ _ T_hedgerowlaw07_StoreLive) rfl (by simp [F_hedgerowlaw07_StoreLive]), wp_fin1]
    simp only [F_hedgerowlaw07_StoreLive, b_hedgerowlaw07_StoreLive]
    have hue := elemsUnbox hve
    have hok := hve.ok
    cases fb with
    | false => simp [hfx, hue, hok, hfew]
    | true =>
      obtain ⟨hl60, hsh⟩ := hfb rfl
      have hfit : ∀ e ∈ E, EvFit e := fun e he => (hin e he).fit (hsh e he)
      obtain ⟨vr, H1, hca, hG⟩ := ref_Causal E (by omega) hfit ve hve H hbt
      have hca := up hca
      have hrow := row_of hl60 hfit
      have hcl := (causal_out E).2
      generalize (causal E).1 = R at hrow hG
      generalize (causal E).2 = kv at hcl hca
      have hrok := hG.ok
      have hre := hG.app.elems
      have hrl := hre.len
      have hru := elemsUnbox hre
      simp only [List.length_map] at hrl
      have gr1 := Gr.tok hG.step
      have hbo1 := gr1.bole hbo
      have hone : ∀ z : List GV, z.length = 16 → setPart z 0 (kv.map intG) = some (kv.map intG) := fun z hz => by
        simp only [setPart, hz, List.length_map, hcl]; simp [hcl, hz]
      have ho2 : kv.all (GV.one ∘ intG) = true := by rw [List.all_eq_true]; intros; rfl
      have t3 : List.take 16 kv = kv := List.take_of_length_le (by omega)
      have n1 := new_ok H1
      have s1 := Sto.new H1 hbo1
      have m1 := new_more H1
      generalize newH H1 = H2 at n1 s1 m1
      have gr2 := gr1.trans (Gr.more m1)
      have hbo2 := gr2.bole hbo
      have hrle := hrow.le
      simp [hfx, hue, hok, hfew, hca, hrok, hrl, hru, hcl, hone, ho2, t3, n1]
      rw [wp_seqK, wp_blockK]
      refine live_dos hrow vr hre (H1.objs.length + 1) H1.objs.length _ _ H2 s1 hbo2 _ (by simp [hru]) (by simp) (by simp) (by simp) (.lbox 0 (elC z)) (by simp) ?_
      intro l4 g4 H4 k3 sA stA hf4
      have hgood := hrow.good
      have hbo4 := stA.bole hbo2
      have hbt4 : H4.bt ≤ H4.toks.length := by rw [stA.bt, stA.toks]; exact gr2.btle hbt
      have k7 := hf4.get 7 rfl (v := .ptr (H1.objs.length + 1) 0) (by simp) rfl
      have k5 := hf4.get 5 rfl (v := vr) (by simp [hru]) (by simp [hre.boxy])
      have hsz := hgood.size
      obtain ⟨va, hall, hva⟩ := all_ok sA (by omega)
      have hsa := sort_all hrow sA
      have hcnt : cntS (allOf (doAll R) (elemsE R)) = cntS (doAll R) := by
        rw [← hsa]; exact cnt_perm (sortS_perm _)
      rw [hsa] at hva
      obtain ⟨vx, H5, hel, hvx, hT5⟩ := ref_Elems (by omega) hrow.fit vr hre H4 hbt4
      have hel := up hel
      have gr5 := Gr.tok hT5
      have sA5 := gr5.sto sA
      have au := elemsUnbox hva
      have ak := hva.ok
      have al := hva.len
      have xu := elemsUnbox hvx
      have xk := hvx.ok
      have xl := hvx.len
      simp only [List.length_map] at al xl
      simp [k3, k5, k7, hall, au, ak, hru, hrok, hel, xk, xl]
      rw [wp_seqK, wp_blockK]
      refine live_elems hrow vr hre (H1.objs.length + 1) H1.objs.length va hva vx hvx (.lbox 0 (elC z)) _ _ H5 sA5 (gr5.bole hbo4) (gr5.btle hbt4) _ (by simp [xu]) (by simp) (by simp) (by simp [k5, hru]) (by simp [k7]) (by simp [au]) (by simp) (by simp) (by simp [k3]) ?_
      intro l6 g6 H6 i3 i10 i11 gr6 hf6
      have i7 := hf6.get 7 rfl (v := .ptr (H1.objs.length + 1) 0) (by simp [k7]) rfl
      have i5 := hf6.get 5 rfl (v := vr) (by simp [k5, hru]) (by simp [hre.boxy])
      have i12 := hf6.get 12 rfl (v := va) (by simp [au]) (by simp [hva.boxy])
      have sA6 := gr6.sto sA5
      have hbo6 := gr6.bole (gr5.bole hbo4)
      have hbt6 := gr6.btle (gr5.btle hbt4)
      have hcl2 : cntS (doAll R) ≤ 4611686018427387904 := by
        have := cnt_le (S := doAll R) (n := 60) fun p hp => by
          have e := getS_mem sA.ap hp
          have := hgood.len p.1
          rw [e] at this; omega
        omega
      have la := len_ok sA6 hcl2
      rw [hcnt] at i10
      -- the element asked for
      have hk := el_key' hz hzr
      have hlen := hgood.len z
      obtain ⟨v1, hen, hE1⟩ := entries_ok sA6 z hk (by omega) hbo6
      have hen := up hen
      have gr7 := Gr.more (killH_more (getS (doAll R) z) H6)
      rw [live_sorted hrow z] at hE1
      generalize killH (getS (doAll R) z) H6 = H7 at hen gr7
      obtain ⟨_, hup⟩ := causl_up (v := zero16) rfl hrow.causl
      obtain ⟨vl, H8, hlv, hGl⟩ := ref_Live (by omega) (fun e he => ⟨hrow.fit e he, (hup e he).1⟩) vr hre z H7 (gr7.btle hbt6)
      have hlv := up hlv
      have gr8 := gr7.trans (Gr.tok hGl.step)
      have hle := hGl.app.elems
      have hll : (live R z).length = (getS (doAll R) z).length := by
        have := (live_all hrow z).length_eq
        rw [List.length_map] at this; exact this.symm
      obtain ⟨H9, hsm, _⟩ := same_entries (F := live R z) (by rw [hll]; omega) (fun y hy => hrow.fit y (List.mem_filter.1 hy).1) v1 hE1 vl hle H8 (gr8.btle hbt6)
      have hsm := up hsm
      have e1u := elemsUnbox hE1
      have e1k := hE1.ok
      have lk := hle.ok
      have lu := elemsUnbox hle
      simp [i3, i5, i7, i10, i11, i12, au, ak, al, la, hlz, htz, hru, hrok, hen, hlv, hsm, e1u, e1k, lk, lu]
  obtain ⟨r, h, H', rfl⟩ := key
  exact ⟨H', h⟩
end Go.Proofs.YthmplnbogdfajaaGreatDoor

namespace Go.Proofs.YthmplnbogdfajaaGreatDoor
open Go.Sh Go.ChangeShapes Go.WideShapes Go.ChangeAt Go.RowKit
set_option maxRecDepth 100000

theorem storeLive_args (gargs : List GV) (h : ArgsFit [.slice evSh, elSh] gargs) : ∃ H', ecall T2 f_hedgerowlaw07_StoreLive gargs (isoH Tryz.prog.globals.size) = some (.bool true, H') := by
  cases h with
  | cons h1 t1 =>
  cases t1 with
  | cons h2 t2 =>
    cases t2
    obtain ⟨E, hE, he, hel⟩ := fits_list (f := evG) (fun c hc => fits_ev hc) h1
    obtain ⟨z, rfl, hz, hzr⟩ := cells_el h2
    exact storeLive_ok E (by unfold maxLen at hel; omega) he _ hE z hz hzr _ (by simp [isoH]) (by simp [isoH])
end Go.Proofs.YthmplnbogdfajaaGreatDoor
