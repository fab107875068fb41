/- Own work: the shadow machine and what it shows, part Fe. -/
import Derived.Test.YthbhfipgdinihaaDoorRe
set_option linter.all false

namespace Go.Proofs.YthbhfipgdinihaaDoor
open Go.Sh
set_option maxRecDepth 100000

structure ElBig (x : El) : Prop where
  a : x.a.length ≤ 1125899906842624
  b : x.b.length ≤ 1125899906842624
  c : x.c.length ≤ 1125899906842624
  d : x.d.length ≤ 1125899906842624

structure IBig (p : IP) : Prop where
  x : ElBig p.1.x
  L : p.1.L.length ≤ 9223372036854775807
  el : Elems 5 p.2 (p.1.L.map entG)

structure EvBig (e : Evt) : Prop where
  past : e.past.length = 16
  x : ElBig e.x
  t : e.vt.length ≤ 1125899906842624

def elSum (x : El) : Nat := x.a.length + x.b.length + x.c.length + x.d.length
structure Small (p : Itm) : Prop where
  L : p.L.length ≤ 20
  x : elSum p.x ≤ 300
  t : ∀ e ∈ p.L, e.t.length ≤ 300

theorem few_entries (L : List Ent) (hL : L.length ≤ 20) (v : GV) (hv : Elems 5 v (L.map entG)) (l0 : List GV) (g0 : Nat) (H0 : GH) (K : GExit × St → Prop) (bx : GV) (g1 : Nat) (cs : List GV) (hbx : bx = .lbox g1 cs)
    (h53 : lget l0 53 = v) (h54 : lget l0 54 = .int .i64 L.length) (h55 : lget l0 55 = .int .i64 0) (h1 : lget l0 1 = bx)
    (he : ∀ l g, lget l 1 = bx → (∀ e ∈ L, e.t.length ≤ 300) → Fr L0_hedgerowlaw12_few l0 l → K (.exit 2, ⟨⟨l, g⟩, H0⟩))
    (hr : ∀ l g, lget l 2 = .bool false → K (.ret, ⟨⟨l, g⟩, H0⟩)) :
    optW (erun T (.loop L0_hedgerowlaw12_few) ⟨⟨l0, g0⟩, H0⟩) K := by
  subst hbx
  refine range_loop (T := T) (n := L.length) (A := Unit) (fun _ _ => [(1, .lbox g1 cs)]) (fun i _ _ H' => H' = H0 ∧ ∀ e ∈ L.take i, e.t.length ≤ 300) (c := 56) (b := 2) (I := 55) (N := 54) (d := 64) rfl (by omega) (by decide) ⟨rfl, rfl⟩ (by simp) ?_ ?_ 0 () _ _ H0 (by omega) ⟨rfl, by simp⟩ (by simp [h1]) (.refl _ _ _) h55 h54
  · intro i a l g H' hi ⟨hH, hall⟩ hh hf hI
    subst hH
    have h53' := hf.get 53 rfl h53 (by simp [hv.boxy])
    obtain ⟨lt, ix, opt, get, ⟨t, sl⟩, wr_, mem⟩ := at_ok (e := entG) hv hi (by omega)
    generalize L[i]'hi = e at opt get mem
    have htake : L.take (i + 1) = L.take i ++ [e] := by rw [List.take_add_one, opt]; rfl
    simp only [Holds_cons, Holds_nil, and_true] at hh
    rw [sl] at h53'
    by_cases hs : 300 < e.t.length
    · have hs' : (300 : Int) < e.t.length := by omega
      simp [h53', hI, hh, ix, opt, get, entC, setPart, hs, hs']
      exact fun _ => hr _ _ (by simp)
    · have hs' : ¬ (300 : Int) < e.t.length := by omega
      simp [h53', hI, hh, ix, opt, get, entC, setPart, hs, hs']
      intro _ e' he'
      rw [htake] at he'
      rcases List.mem_append.1 he' with he' | he'
      · exact hall e' he'
      · rw [List.mem_singleton] at he'; subst he'; omega
  · intro a l g H' ⟨hH, hall⟩ hh hf
    subst hH
    simp only [Holds_cons, Holds_nil, and_true] at hh
    rw [List.take_length] at hall
    exact he l g hh hall hf

theorem few_items (I : List IP) (hI : I.length ≤ 30) (hbig : ∀ p ∈ I, IBig p) (v : GV) (hv : Elems 6 v (I.map ipG)) (l0 : List GV) (g0 : Nat) (H0 : GH) (K : GExit × St → Prop) (bx : GV) (g1 : Nat) (cs : List GV) (hbx : bx = .lbox g1 cs)
    (h20 : lget l0 20 = v) (h21 : lget l0 21 = .int .i64 I.length) (h22 : lget l0 22 = .int .i64 0) (h1 : lget l0 1 = bx)
    (he : ∀ l g, lget l 1 = bx → (∀ p ∈ I, Small p.1) → K (.exit 0, ⟨⟨l, g⟩, H0⟩))
    (hr : ∀ l g, lget l 2 = .bool false → K (.ret, ⟨⟨l, g⟩, H0⟩)) :
    optW (erun T (.loop L1_hedgerowlaw12_few) ⟨⟨l0, g0⟩, H0⟩) K := by
  subst hbx
  refine range_loop (T := T) (n := I.length) (A := Unit) (fun _ _ => [(1, .lbox g1 cs)]) (fun i _ _ H' => H' = H0 ∧ ∀ p ∈ I.take i, Small p.1) (c := 23) (b := 0) (I := 22) (N := 21) (d := 65) rfl (by omega) (by decide) ⟨rfl, rfl⟩ (by simp) ?_ ?_ 0 () _ _ H0 (by omega) ⟨rfl, by simp⟩ (by simp [h1]) (.refl _ _ _) h22 h21
  · intro i a l g H' hi ⟨hH, hall⟩ hh hf hIx
    subst hH
    have h20' := hf.get 20 rfl h20 (by simp [hv.boxy])
    obtain ⟨lt, ix, opt, get, ⟨t, sl⟩, wr_, mem⟩ := at_ok (e := ipG) hv hi (by omega)
    generalize I[i]'hi = p at opt get mem
    obtain ⟨⟨ha, hb, hc, hd⟩, hL, hel⟩ := hbig p mem
    have htake : I.take (i + 1) = I.take i ++ [p] := by rw [List.take_add_one, opt]; rfl
    simp only [Holds_cons, Holds_nil, and_true] at hh
    have hone := hel.one
    have hcel := hel.cells
    have hok' := hel.ok
    have hle := hel.len
    have hue := elemsUnbox hel
    simp only [List.length_map] at hle
    have q1 : IntKind.i64.wrap ((p.1.x.a.length : Int) + p.1.x.b.length) = (p.1.x.a.length : Int) + p.1.x.b.length := wrap_i64' (by omega) (by omega)
    have q2 : IntKind.i64.wrap ((p.1.x.a.length : Int) + p.1.x.b.length + p.1.x.c.length) = (p.1.x.a.length : Int) + p.1.x.b.length + p.1.x.c.length := wrap_i64' (by omega) (by omega)
    have q3 : IntKind.i64.wrap ((p.1.x.a.length : Int) + p.1.x.b.length + p.1.x.c.length + p.1.x.d.length) = (p.1.x.a.length : Int) + p.1.x.b.length + p.1.x.c.length + p.1.x.d.length := wrap_i64' (by omega) (by omega)
    rw [sl] at h20'
    by_cases hl : 20 < p.1.L.length
    · have hl' : (20 : Int) < p.1.L.length := by omega
      simp [h20', hIx, hh, ix, opt, get, itemC, elC, setPart, hone, hok', hle, hue, hl, hl']
      exact fun _ => hr _ _ (by simp)
    have hl' : ¬ (20 : Int) < p.1.L.length := by omega
    by_cases hs : (300 : Int) < (p.1.x.a.length : Int) + p.1.x.b.length + p.1.x.c.length + p.1.x.d.length
    · simp [h20', hIx, hh, ix, opt, get, itemC, elC, setPart, hone, hok', hle, hue, hl, hl', q1, q2, q3, hs]
      exact fun _ => hr _ _ (by simp)
    simp [h20', hIx, hh, ix, opt, get, itemC, elC, setPart, hone, hok', hle, hue, hl, hl', q1, q2, q3, hs]
    rw [wp_blockK, wp_blockK]
    refine few_entries p.1.L (by omega) p.2 hel _ _ H' _ _ g1 cs rfl (by simp [hue]) (by simp) (by simp) (by simp [hh]) ?_ ?_
    · intro l2 g2 h2 h3 _
      simp [h2]
      intro _ x v hm
      rw [htake] at hm
      rcases List.mem_append.1 hm with hm | hm
      · exact hall _ hm
      · rw [List.mem_singleton] at hm; subst hm
        simp only at hl hs
        exact ⟨by omega, by simp only [elSum]; omega, h3⟩
    · intro l2 g2 h2
      simp
      exact fun _ => hr _ _ h2
  · intro a l g H' ⟨hH, hall⟩ hh hf
    subst hH
    simp only [Holds_cons, Holds_nil, and_true] at hh
    rw [List.take_length] at hall
    exact he l g hh hall

theorem ref_Short (e : Evt) (h : EvBig e) (H : GH) : ecall T f_hedgerowref06_Short [evG e] H = some (.bool (decide (elSum e.x + e.vt.length ≤ 300)), H) := by
  obtain ⟨e18, e19, e20, e21, e22, e23, e24, e25, e26⟩ := ev_gets h.past
  have el := ev_len h.past
  have f20 := get_of e20
  have f21 := get_of e21
  have f22 := get_of e22
  have f23 := get_of e23
  have f26 := get_of e26
  obtain ⟨ha, hb, hc, hd⟩ := h.x
  have ht := h.t
  have q1 : IntKind.i64.wrap ((e.x.a.length : Int) + e.x.b.length) = (e.x.a.length : Int) + e.x.b.length := wrap_i64' (by omega) (by omega)
  have q2 : IntKind.i64.wrap ((e.x.a.length : Int) + e.x.b.length + e.x.c.length) = (e.x.a.length : Int) + e.x.b.length + e.x.c.length := wrap_i64' (by omega) (by omega)
  have q3 : IntKind.i64.wrap ((e.x.a.length : Int) + e.x.b.length + e.x.c.length + e.x.d.length) = (e.x.a.length : Int) + e.x.b.length + e.x.c.length + e.x.d.length := wrap_i64' (by omega) (by omega)
  have q4 : IntKind.i64.wrap ((e.x.a.length : Int) + e.x.b.length + e.x.c.length + e.x.d.length + e.vt.length) = (e.x.a.length : Int) + e.x.b.length + e.x.c.length + e.x.d.length + e.vt.length := wrap_i64' (by omega) (by omega)
  have hd : decide (elSum e.x + e.vt.length ≤ 300) = decide ((e.x.a.length : Int) + e.x.b.length + e.x.c.length + e.x.d.length + e.vt.length ≤ 300) := by
    simp only [elSum]; congr 1; apply propext; omega
  apply optW.eq
  rw [ecall_0 T_hedgerowref06_Short rfl (by simp [F_hedgerowref06_Short]), wp_fin1]
  simp [F_hedgerowref06_Short, b_hedgerowref06_Short, el, f20, f21, f22, f23, f26, q1, q2, q3, q4, hd]

theorem few_events (E : List Evt) (hE : E.length ≤ 30) (hbig : ∀ e ∈ E, EvBig e) (ve : GV) (hve : Elems 27 ve (E.map evG)) (l0 : List GV) (g0 : Nat) (H0 : GH) (K : GExit × St → Prop)
    (h67 : lget l0 67 = ve) (h68 : lget l0 68 = .int .i64 E.length) (h69 : lget l0 69 = .int .i64 0)
    (he : ∀ l g, (∀ e ∈ E, elSum e.x + e.vt.length ≤ 300) → K (.exit 4, ⟨⟨l, g⟩, H0⟩))
    (hr : ∀ l g, lget l 2 = .bool false → K (.ret, ⟨⟨l, g⟩, H0⟩)) :
    optW (erun T (.loop L2_hedgerowlaw12_few) ⟨⟨l0, g0⟩, H0⟩) K := by
  refine range_loop (T := T) (n := E.length) (A := Unit) (fun _ _ => []) (fun i _ _ H' => H' = H0 ∧ ∀ e ∈ E.take i, elSum e.x + e.vt.length ≤ 300) (c := 70) (b := 4) (I := 69) (N := 68) (d := 76) rfl (by omega) (by decide) ⟨rfl, rfl⟩ (by simp) ?_ ?_ 0 () _ _ H0 (by omega) ⟨rfl, by simp⟩ (by simp) (.refl _ _ _) h69 h68
  · intro i a l g H' hi ⟨hH, hall⟩ hh hf hIx
    subst hH
    have h67' := hf.get 67 rfl h67 (by simp [hve.boxy])
    obtain ⟨lt, ix, opt, get, ⟨t, sv⟩, wr_, mem⟩ := at_ok (e := evG) hve hi (by omega)
    generalize E[i]'hi = e at opt get mem
    have hfe := hbig e mem
    have hsh := fun H => ref_Short e hfe H
    have l1 := ev_len hfe.past
    have l4 : List.take 27 (evC e) = evC e := List.take_of_length_le (by rw [l1]; exact Nat.le_refl _)
    have lo := ev_one hfe.past
    have sp : setPart [GV.int .i64 0, .int .i64 0, .int .i64 0, .int .i64 0, .int .i64 0, .int .i64 0, .int .i64 0, .int .i64 0, .int .i64 0, .int .i64 0, .int .i64 0, .int .i64 0, .int .i64 0, .int .i64 0, .int .i64 0, .int .i64 0, .int .i64 0, .int .i64 0, .int .i64 0, .int .i64 0, .str ⟨#[]⟩, .str ⟨#[]⟩, .str ⟨#[]⟩, .str ⟨#[]⟩, .int .i64 0, .int .i64 0, .str ⟨#[]⟩] 0 (evC e) = some (evC e) := by
      simp only [setPart, l1]; simp
    have htake : E.take (i + 1) = E.take i ++ [e] := by rw [List.take_add_one, opt]; rfl
    rw [sv] at h67'
    by_cases hs : elSum e.x + e.vt.length ≤ 300
    · simp [h67', hIx, ix, opt, get, sp, l1, l4, lo, hsh, hs]
      intro _ e' he'
      rw [htake] at he'
      rcases List.mem_append.1 he' with he' | he'
      · exact hall e' he'
      · rw [List.mem_singleton] at he'; subst he'; exact hs
    · simp [h67', hIx, ix, opt, get, sp, l1, l4, lo, hsh, hs]
      exact fun _ => hr _ _ (by simp)
  · intro a l g H' ⟨hH, hall⟩ hh hf
    subst hH
    rw [List.take_length] at hall
    exact he l g hall

/-- What few says of a snapshot that comes from without. -/
theorem few_ok (kv : List Int) (hk : kv.length = 16) (I : List IP) (hI : I.length ≤ 9223372036854775807) (hbig : ∀ p ∈ I, IBig p) (E : List Evt) (hE : E.length ≤ 9223372036854775807) (hbe : ∀ e ∈ E, EvBig e) (vi ve : GV) (hvi : Elems 6 vi (I.map ipG)) (hve : Elems 27 ve (E.map evG)) (H : GH) :
    ∃ b, ecall T f_hedgerowlaw12_few [.agg (snC kv vi ve)] H = some (.bool b, H) ∧ (b = true → I.length ≤ 30 ∧ E.length ≤ 30 ∧ (∀ p ∈ I, Small p.1) ∧ ∀ e ∈ E, elSum e.x + e.vt.length ≤ 300) := by
  have s16 := sn_16 hk vi ve
  have s16' := sn_16' hk vi ve
  have s17 := sn_17 hk vi ve
  have s17' := sn_17' hk vi ve
  have sl := sn_len hk vi ve
  have li := hvi.len
  have ui := elemsUnbox hvi
  have le := hve.len
  have ue := elemsUnbox hve
  have oi := hvi.ok
  have oe := hve.ok
  simp only [List.length_map] at li le
  have key : optW (ecall T f_hedgerowlaw12_few [.agg (snC kv vi ve)] H) fun r => ∃ b, r = (.bool b, H) ∧ (b = true → I.length ≤ 30 ∧ E.length ≤ 30 ∧ (∀ p ∈ I, Small p.1) ∧ ∀ e ∈ E, elSum e.x + e.vt.length ≤ 300) := by
    rw [ecall_0 T_hedgerowlaw12_few rfl (by simp [F_hedgerowlaw12_few]), wp_fin1]
    simp only [F_hedgerowlaw12_few, b_hedgerowlaw12_few]
    by_cases n1 : (30 : Int) < I.length
    · have n1' : 30 < I.length := by omega
      simp [sl, s16, s16', li, ui, oi, n1, n1']
    have n1' : ¬ 30 < I.length := by omega
    by_cases n2 : (30 : Int) < E.length
    · have n2' : 30 < E.length := by omega
      simp [sl, s16, s16', s17, s17', li, ui, oi, le, ue, oe, n1, n1', n2, n2']
    have n2' : ¬ 30 < E.length := by omega
    simp [sl, s16, s16', s17, s17', li, ui, oi, le, ue, oe, n1, n1', n2, n2']
    rw [wp_seqK, wp_blockK]
    refine few_items I (by omega) hbig vi hvi _ _ H _ _ 0 (snC kv vi ve) rfl (by simp [ui]) (by simp) (by simp) (by simp) ?_ ?_
    · intro l2 g2 k1 hs
      simp [k1, sl, s17, s17', le, ue]
      rw [wp_seqK, wp_blockK]
      refine few_events E (by omega) hbe ve hve _ _ H _ (by simp [ue]) (by simp) (by simp) ?_ ?_
      · intro l3 g3 hs3
        simp
        exact ⟨by omega, by omega, fun a b hm => hs _ hm, hs3⟩
      · intro l3 g3 k3
        simp [k3]
    · intro l2 g2 k2
      simp [k2]
  obtain ⟨r, h, b, rfl, h2⟩ := key
  exact ⟨b, h, h2⟩
end Go.Proofs.YthbhfipgdinihaaDoor
