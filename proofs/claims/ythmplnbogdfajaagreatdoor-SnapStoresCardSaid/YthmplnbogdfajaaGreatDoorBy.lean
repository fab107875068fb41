/- Own work: the shadow machine and what it shows, part By. -/
import Derived.Test.YthmplnbogdfajaaGreatDoorSn
import Derived.Test.YthmplnbogdfajaaGreatDoorNu
set_option linter.all false
namespace Go.Proofs.YthmplnbogdfajaaGreatDoor
open Go.Sh
set_option maxRecDepth 100000
structure ElS (x : El) : Prop where
  a : x.a.length ≤ 1000
  b : x.b.length ≤ 1000
  c : x.c.length ≤ 1000
  d : x.d.length ≤ 1000
structure EntS (x : Ent) : Prop where
  t : x.t.length ≤ 1000
  n1 : -9223372036854775808 ≤ x.n
  n2 : x.n ≤ 9223372036854775807
structure EvS (e : Evt) : Prop where
  past : e.past.length = 16
  x : ElS e.x
  t : e.vt.length ≤ 1000
  n1 : -9223372036854775808 ≤ e.vn
  n2 : e.vn ≤ 9223372036854775807
structure IS (p : IP) : Prop where
  x : ElS p.1.x
  r : ElRange p.1.x
  L : p.1.L.length ≤ 100000
  fit : ∀ e ∈ p.1.L, EntS e
  el : Elems 5 p.2 (p.1.L.map entG)
theorem ElS.ok {x : El} (h : ElS x) : ElFit x := ⟨by have := h.a; omega, by have := h.b; omega, by have := h.c; omega, by have := h.d; omega⟩
theorem EntS.ok {x : Ent} (h : EntS x) : EntFit x := ⟨h.n1, h.n2⟩
theorem EvS.ok {e : Evt} (h : EvS e) : EvFit e := ⟨h.past, h.x.ok, by have := h.t; omega, h.n1, h.n2⟩
theorem IS.ok {p : IP} (h : IS p) : IOk p := ⟨h.x.ok, h.r, h.L, fun e he => (h.fit e he).ok, h.el⟩
def tB (t : List UInt8) : List Int := t.map fun b => (b.toNat : Int)
theorem tB_len (t : List UInt8) : (tB t).length = t.length := by simp [tB]
theorem bytesGV_mk (t : List UInt8) : bytesGV (mkB t) = u8s (tB t) := by simp [bytesGV, u8s, tB, mkB]
def textB (t : List UInt8) : List Int := putB t.length ++ tB t
def vlB (k n : Int) (t : List UInt8) : List Int := putB k ++ (sigB n ++ textB t)
def entBy (e : Ent) : List Int := putB e.r ++ (putB e.c ++ vlB e.k e.n e.t)
def txB (l : List (List UInt8)) : List Int := l.flatMap textB
def elBy (x : El) : List Int := putB x.k ++ txB [x.a, x.b, x.c, x.d]
def itemBy (p : Itm) : List Int := elBy p.x ++ (putB p.L.length ++ p.L.flatMap entBy)
def evBy (e : Evt) : List Int := (putB e.r ++ (putB e.c ++ e.past.flatMap putB)) ++ (putB e.op ++ elBy e.x) ++ vlB e.vk e.vn e.vt
def snapBy (kv : List Int) (I : List Itm) (E : List Evt) : List Int := kv.flatMap putB ++ (putB I.length ++ (I.flatMap itemBy ++ (putB E.length ++ E.flatMap evBy)))
theorem flat_le {α : Type} (f : α → List Int) (B : Nat) : ∀ l : List α, (∀ x ∈ l, (f x).length ≤ B) → (l.flatMap f).length ≤ l.length * B
  | [], _ => by simp
  | x :: l, h => by
    have h1 := h x (by simp)
    have h2 := flat_le f B l (fun y hy => h y (by simp [hy]))
    rw [List.flatMap_cons, List.length_append, List.length_cons, Nat.succ_mul]; omega
theorem textB_len {t : List UInt8} (h : t.length ≤ 1000) : (textB t).length ≤ 1009 := by
  have := putB_len t.length
  simp only [textB, List.length_append, tB_len]; omega
theorem vlB_len {k n : Int} {t : List UInt8} (h : t.length ≤ 1000) : (vlB k n t).length ≤ 1027 := by
  have := putB_len k; have := sigB_len n; have := textB_len h
  simp only [vlB, List.length_append]; omega
theorem entBy_len {e : Ent} (h : EntS e) : (entBy e).length ≤ 1045 := by
  have := putB_len e.r; have := putB_len e.c; have := vlB_len (k := e.k) (n := e.n) h.t
  simp only [entBy, List.length_append]; omega
theorem elBy_len {x : El} (h : ElS x) : (elBy x).length ≤ 4045 := by
  have := putB_len x.k; have := textB_len h.a; have := textB_len h.b; have := textB_len h.c; have := textB_len h.d
  simp only [elBy, txB, List.flatMap_cons, List.flatMap_nil, List.length_append, List.length_nil]; omega
theorem itemBy_len {p : Itm} (hx : ElS p.x) (hL : p.L.length ≤ 1000) (hf : ∀ e ∈ p.L, EntS e) : (itemBy p).length ≤ 1100000 := by
  have := elBy_len hx; have := putB_len p.L.length
  have h1 := flat_le entBy 1045 p.L (fun e he => entBy_len (hf e he))
  have h2 : p.L.length * 1045 ≤ 1000 * 1045 := Nat.mul_le_mul hL (Nat.le_refl _)
  simp only [itemBy, List.length_append]; omega
theorem evBy_len {e : Evt} (h : EvS e) : (evBy e).length ≤ 6000 := by
  have := putB_len e.r; have := putB_len e.c; have := putB_len e.op; have := elBy_len h.x; have := vlB_len (k := e.vk) (n := e.vn) h.t
  have h1 := flat_le putB 9 e.past (fun n _ => putB_len n)
  rw [h.past] at h1
  simp only [evBy, List.length_append]; omega
theorem text_specL (t : List UInt8) (ht : t.length ≤ 1000) {H : GH} {s : GV} {xs : List GV} (ha : App H 1 s xs) (hbt : H.bt ≤ H.toks.length) (hl : xs.length ≤ 2 ^ 39) :
    ∃ s' H', ecall T f_x34 [s, .str (mkB t)] H = some (s', H') ∧ Grown 1 H s (xs ++ u8s (textB t)) H' s' := by
  obtain ⟨s', H', h1, h2⟩ := text_spec (mkB t) (by rw [mkB_size]; omega) ha hbt hl
  refine ⟨s', H', h1, ?_⟩
  rw [bytesGV_mk, mkB_size] at h2
  simpa [textB, u8s_append] using h2
theorem putValue (k n : Int) (t : List UInt8) (ht : t.length ≤ 1000) {H : GH} {s : GV} {xs : List GV} (ha : App H 1 s xs) (hbt : H.bt ≤ H.toks.length) (hl : xs.length ≤ 2 ^ 38) :
    ∃ s' H', ecall T f_x56 [s, .agg [.int .i64 k, .int .i64 n, .str (mkB t)]] H = some (s', H') ∧ Grown 1 H s (xs ++ u8s (vlB k n t)) H' s' := by
  have key : optW (ecall T f_x56 [s, .agg [.int .i64 k, .int .i64 n, .str (mkB t)]] H) fun r => Grown 1 H s (xs ++ u8s (vlB k n t)) r.2 r.1 := by
    rw [ecall_0 T_x56 rfl (by simp [F_x56]), wp_fin1]
    have b1 := putB_len k
    have b2 := sigB_len n
    obtain ⟨s1, H1, c1, g1⟩ := put_spec k ha hbt (by omega)
    obtain ⟨s2, H2, c2, g2⟩ := signed_spec n g1.app (g1.step.btle hbt) (by simp only [List.length_append, u8s_length]; omega)
    obtain ⟨s3, H3, c3, g3⟩ := text_specL t ht g2.app (g2.step.btle (g1.step.btle hbt)) (by simp only [List.length_append, u8s_length]; omega)
    simp [F_x56, b_x56, ha.ok, c1, g1.ok, c2, g2.ok, c3, g3.ok]
    simpa [vlB, u8s_append] using (g1.trans g2).trans g3
  obtain ⟨⟨s', H'⟩, h1, h2⟩ := key
  exact ⟨s', H', h1, h2⟩
theorem item_texts (ts : List (List UInt8)) (hts : ∀ t ∈ ts, t.length ≤ 1000) (hn : ts.length ≤ 1000) (tag : Tag) (l0 : List GV) (g0 : Nat) (H0 : GH) (s0 : GV) (xs : List GV) (ha : App H0 1 s0 xs) (hbt : H0.bt ≤ H0.toks.length) (hl : xs.length ≤ 2 ^ 38) (K : GExit × St → Prop)
    (h26 : lget l0 26 = .sl 1 (ts.map strG) tag) (h27 : lget l0 27 = .int .i64 ts.length) (h28 : lget l0 28 = .int .i64 0) (h0 : lget l0 0 = s0)
    (he : ∀ l g H s, lget l 0 = s → Grown 1 H0 s0 (xs ++ u8s (txB ts)) H s → Fr L0_x55 l0 l → K (.exit 0, ⟨⟨l, g⟩, H⟩)) :
    optW (erun T (.loop L0_x55) ⟨⟨l0, g0⟩, H0⟩) K := by
  refine range_loop (T := T) (n := ts.length) (A := GV) (fun _ s => [(0, s)]) (fun i s _ H' => Grown 1 H0 s0 (xs ++ u8s (txB (ts.take i))) H' s) (c := 29) (b := 0) (I := 28) (N := 27) (d := 35) rfl (by omega) (by decide) ⟨rfl, rfl⟩ (by simp) ?_ ?_ 0 s0 _ _ H0 (by omega) (by simpa [txB, u8s] using Grown.refl ha) (by simp [h0]) (.refl _ _ _) h28 h27
  · intro i s l g H' hi hG hh hf hI
    have h26' := hf.get 26 rfl h26 rfl
    obtain ⟨lt, ix, opt, get, _, wr_, mem⟩ := at_ok (e := strG) (v := .sl 1 (ts.map strG) tag) (.sl _ _) hi (by omega)
    generalize ts[i]'hi = t at opt get mem
    have htake : ts.take (i + 1) = ts.take i ++ [t] := by rw [List.take_add_one, opt]; rfl
    simp only [Holds_cons, Holds_nil, and_true] at hh
    have hlen : (txB (ts.take i)).length ≤ 1000 * 1009 := by
      have h1 := flat_le textB 1009 (ts.take i) (fun t ht => textB_len (hts t (List.mem_of_mem_take ht)))
      have h2 : (ts.take i).length ≤ 1000 := by rw [List.length_take]; omega
      exact Nat.le_trans h1 (Nat.mul_le_mul h2 (Nat.le_refl _))
    obtain ⟨s', H2, c1, g1⟩ := text_specL t (hts t mem) hG.app (hG.step.btle hbt) (by simp only [List.length_append, u8s_length]; omega)
    simp [h26', hI, hh, ix, opt, get, strG, hG.ok, c1, g1.ok]
    intro hf'
    rw [htake]
    simpa [txB, u8s_append] using hG.trans g1
  · intro s l g H' hG hh hf
    simp only [Holds_cons, Holds_nil, and_true] at hh
    rw [List.take_length] at hG
    exact he l g H' s hh hG hf
theorem item_entries (L : List Ent) (hL : L.length ≤ 1000) (hfit : ∀ e ∈ L, EntS e) (v : GV) (hv : Elems 5 v (L.map entG)) (l0 : List GV) (g0 : Nat) (H0 : GH) (s0 : GV) (xs : List GV) (ha : App H0 1 s0 xs) (hbt : H0.bt ≤ H0.toks.length) (hl : xs.length ≤ 2 ^ 37) (K : GExit × St → Prop)
    (h42 : lget l0 42 = v) (h43 : lget l0 43 = .int .i64 L.length) (h44 : lget l0 44 = .int .i64 0) (h0 : lget l0 0 = s0)
    (he : ∀ l g H s, lget l 0 = s → Grown 1 H0 s0 (xs ++ u8s (L.flatMap entBy)) H s → K (.exit 2, ⟨⟨l, g⟩, H⟩)) :
    optW (erun T (.loop L1_x55) ⟨⟨l0, g0⟩, H0⟩) K := by
  refine range_loop (T := T) (n := L.length) (A := GV) (fun _ s => [(0, s)]) (fun i s _ H' => Grown 1 H0 s0 (xs ++ u8s ((L.take i).flatMap entBy)) H' s) (c := 45) (b := 2) (I := 44) (N := 43) (d := 60) rfl (by omega) (by decide) ⟨rfl, rfl⟩ (by simp) ?_ ?_ 0 s0 _ _ H0 (by omega) (by simpa [u8s] using Grown.refl ha) (by simp [h0]) (.refl _ _ _) h44 h43
  · intro i s l g H' hi hG hh hf hI
    have h42' := hf.get 42 rfl h42 (by simp [hv.boxy])
    obtain ⟨lt, ix, opt, get, ⟨t, sl⟩, wr_, mem⟩ := at_ok (e := entG) hv hi (by omega)
    generalize L[i]'hi = e at opt get mem
    have hfe := hfit e mem
    have htake : L.take (i + 1) = L.take i ++ [e] := by rw [List.take_add_one, opt]; rfl
    simp only [Holds_cons, Holds_nil, and_true] at hh
    have hlen : ((L.take i).flatMap entBy).length ≤ 1000 * 1045 := by
      have h1 := flat_le entBy 1045 (L.take i) (fun t ht => entBy_len (hfit t (List.mem_of_mem_take ht)))
      have h2 : (L.take i).length ≤ 1000 := by rw [List.length_take]; omega
      exact Nat.le_trans h1 (Nat.mul_le_mul h2 (Nat.le_refl _))
    have b1 := putB_len e.r
    have b2 := putB_len e.c
    obtain ⟨s1, H1, c1, g1⟩ := put_spec e.r hG.app (hG.step.btle hbt) (by simp only [List.length_append, u8s_length]; omega)
    obtain ⟨s2, H2, c2, g2⟩ := put_spec e.c g1.app (g1.step.btle (hG.step.btle hbt)) (by simp only [List.length_append, u8s_length]; omega)
    obtain ⟨s3, H3, c3, g3⟩ := putValue e.k e.n e.t hfe.t g2.app (g2.step.btle (g1.step.btle (hG.step.btle hbt))) (by simp only [List.length_append, u8s_length]; omega)
    rw [sl] at h42'
    simp [h42', hI, hh, ix, opt, get, entC, setPart, hG.ok, c1, g1.ok, c2, g2.ok, c3, g3.ok]
    intro hf'
    rw [htake]
    simpa [entBy, u8s_append] using ((hG.trans g1).trans g2).trans g3
  · intro s l g H' hG hh hf
    simp only [Holds_cons, Holds_nil, and_true] at hh
    rw [List.take_length] at hG
    exact he l g H' s hh hG
theorem putItem (p : IP) (hp : IS p) (hL : p.1.L.length ≤ 1000) {H : GH} {s : GV} {xs : List GV} (ha : App H 1 s xs) (hbt : H.bt ≤ H.toks.length) (hl : xs.length ≤ 2 ^ 36) :
    ∃ s' H', ecall T f_x55 [s, ipG p] H = some (s', H') ∧ Grown 1 H s (xs ++ u8s (itemBy p.1)) H' s' := by
  obtain ⟨hx, hr, _, hfit, hel⟩ := hp
  have hle := hel.len
  have hue := elemsUnbox hel
  have hok := hel.ok
  have key : optW (ecall T f_x55 [s, ipG p] H) fun r => Grown 1 H s (xs ++ u8s (itemBy p.1)) r.2 r.1 := by
    rw [ecall_0 T_x55 rfl (by simp [F_x55]), wp_fin1]
    simp only [F_x55, b_x55]
    have b1 := putB_len p.1.x.k
    have b2 := putB_len p.1.L.length
    obtain ⟨s1, H1, c1, g1⟩ := put_spec p.1.x.k ha hbt (by omega)
    simp [ipG, itemC, elC, ha.ok, hok, c1, g1.ok, gSetAll]
    rw [wp_seqK, wp_blockK]
    have htl := elBy_len hx
    simp only [elBy, List.length_append] at htl
    refine item_texts [p.1.x.a, p.1.x.b, p.1.x.c, p.1.x.d] (by have := hx.a; have := hx.b; have := hx.c; have := hx.d; simp; omega) (by simp) .exact _ _ H1 s1 (xs ++ u8s (putB p.1.x.k)) g1.app (g1.step.btle hbt) (by simp only [List.length_append, u8s_length]; omega) _ (by simp [strG]) (by simp) (by simp) (by simp) ?_
    intro l2 g2 H2 s2 e2 G2 hf2
    have h3 := hf2.get 3 rfl (v := .lbox 0 (itemC p.1.x p.2)) (by simp [itemC, elC]) rfl
    simp only [itemC, elC, List.cons_append, List.nil_append] at h3
    obtain ⟨s3, H3, c3, g3⟩ := put_spec p.1.L.length G2.app (G2.step.btle (g1.step.btle hbt)) (by simp only [List.length_append, u8s_length]; omega)
    simp [h3, e2, hle, hue, hok, G2.ok, c3, g3.ok]
    rw [wp_seqK, wp_blockK]
    refine item_entries p.1.L hL hfit p.2 hel _ _ H3 s3 _ g3.app (g3.step.btle (G2.step.btle (g1.step.btle hbt))) (by simp only [List.length_append, u8s_length]; omega) _ (by simp [hue]) (by simp) (by simp) (by simp) ?_
    intro l4 g4 H4 s4 e4 G4
    simp [e4, G4.ok]
    have := ((g1.trans G2).trans g3).trans G4
    simpa [itemBy, elBy, u8s_append] using this
  obtain ⟨⟨s', H'⟩, h1, h2⟩ := key
  exact ⟨s', H', h1, h2⟩
end Go.Proofs.YthmplnbogdfajaaGreatDoor
namespace Go.Proofs.YthmplnbogdfajaaGreatDoor
open Go.Sh
set_option maxRecDepth 100000
theorem chunks_one : ∀ (n : Nat) (cs : List GV), n ≤ cs.length → chunks 1 n cs = cs.take n
  | 0, _, _ => rfl
  | n + 1, [], h => by simp at h
  | n + 1, c :: cs, h => by
    simp only [chunks, mkEl, List.take_succ_cons, List.take_zero, List.headD_cons, List.drop_succ_cons, List.drop_zero, if_true]
    rw [chunks_one n cs (by simpa using h)]
section
variable {e : Evt} (hp : e.past.length = 16)
include hp
theorem ev_slarr : slarrK 16 1 (evC e) 2 = some (.sl 1 (e.past.map fun n => GV.int .i64 n) .exact) := by
  have h1 := ev_past hp
  have hl := ev_len hp
  unfold slarrK
  rw [chunks_one _ _ (by rw [List.length_drop, hl]; omega), h1, if_pos ⟨by omega, by rw [hl]; omega, by simp, by simp [maxLen]⟩]
end
theorem ev_nums (ns : List Int) (hn : ns.length ≤ 1000) (v : GV) (hv : Elems 1 v (ns.map fun n => GV.int .i64 n)) (l0 : List GV) (g0 : Nat) (H0 : GH) (s0 : GV) (xs : List GV) (ha : App H0 1 s0 xs) (hbt : H0.bt ≤ H0.toks.length) (hl : xs.length ≤ 2 ^ 38) (K : GExit × St → Prop)
    (h18 : lget l0 18 = v) (h19 : lget l0 19 = .int .i64 ns.length) (h20 : lget l0 20 = .int .i64 0) (h0 : lget l0 0 = s0)
    (he : ∀ l g H s, lget l 0 = s → Grown 1 H0 s0 (xs ++ u8s (ns.flatMap putB)) H s → Fr L0_x7 l0 l → K (.exit 0, ⟨⟨l, g⟩, H⟩)) :
    optW (erun T (.loop L0_x7) ⟨⟨l0, g0⟩, H0⟩) K := by
  refine range_loop (T := T) (n := ns.length) (A := GV) (fun _ s => [(0, s)]) (fun i s _ H' => Grown 1 H0 s0 (xs ++ u8s ((ns.take i).flatMap putB)) H' s) (c := 21) (b := 0) (I := 20) (N := 19) (d := 27) rfl (by omega) (by decide) ⟨rfl, rfl⟩ (by simp) ?_ ?_ 0 s0 _ _ H0 (by omega) (by simpa [u8s] using Grown.refl ha) (by simp [h0]) (.refl _ _ _) h20 h19
  · intro i s l g H' hi hG hh hf hI
    have h18' := hf.get 18 rfl h18 (by simp [hv.boxy])
    obtain ⟨lt, ix, opt, get, ⟨t, sl⟩, wr_, mem⟩ := at_ok (e := fun n => GV.int .i64 n) hv hi (by omega)
    generalize ns[i]'hi = n at opt get mem
    have htake : ns.take (i + 1) = ns.take i ++ [n] := by rw [List.take_add_one, opt]; rfl
    simp only [Holds_cons, Holds_nil, and_true] at hh
    have hlen : ((ns.take i).flatMap putB).length ≤ 1000 * 9 := by
      have h1 := flat_le putB 9 (ns.take i) (fun t _ => putB_len t)
      have h2 : (ns.take i).length ≤ 1000 := by rw [List.length_take]; omega
      exact Nat.le_trans h1 (Nat.mul_le_mul h2 (Nat.le_refl _))
    obtain ⟨s', H2, c1, g1⟩ := put_spec n hG.app (hG.step.btle hbt) (by simp only [List.length_append, u8s_length]; omega)
    rw [sl] at h18'
    simp [h18', hI, hh, ix, opt, get, hG.ok, c1, g1.ok]
    intro hf'
    rw [htake]
    simpa [u8s_append] using hG.trans g1
  · intro s l g H' hG hh hf
    simp only [Holds_cons, Holds_nil, and_true] at hh
    rw [List.take_length] at hG
    exact he l g H' s hh hG hf
theorem ev_texts (ts : List (List UInt8)) (hts : ∀ t ∈ ts, t.length ≤ 1000) (hn : ts.length ≤ 1000) (tag : Tag) (l0 : List GV) (g0 : Nat) (H0 : GH) (s0 : GV) (xs : List GV) (ha : App H0 1 s0 xs) (hbt : H0.bt ≤ H0.toks.length) (hl : xs.length ≤ 2 ^ 38) (K : GExit × St → Prop)
    (h26 : lget l0 48 = .sl 1 (ts.map strG) tag) (h27 : lget l0 49 = .int .i64 ts.length) (h28 : lget l0 50 = .int .i64 0) (h0 : lget l0 0 = s0)
    (he : ∀ l g H s, lget l 0 = s → Grown 1 H0 s0 (xs ++ u8s (txB ts)) H s → Fr L1_x7 l0 l → K (.exit 2, ⟨⟨l, g⟩, H⟩)) :
    optW (erun T (.loop L1_x7) ⟨⟨l0, g0⟩, H0⟩) K := by
  refine range_loop (T := T) (n := ts.length) (A := GV) (fun _ s => [(0, s)]) (fun i s _ H' => Grown 1 H0 s0 (xs ++ u8s (txB (ts.take i))) H' s) (c := 51) (b := 2) (I := 50) (N := 49) (d := 57) rfl (by omega) (by decide) ⟨rfl, rfl⟩ (by simp) ?_ ?_ 0 s0 _ _ H0 (by omega) (by simpa [txB, u8s] using Grown.refl ha) (by simp [h0]) (.refl _ _ _) h28 h27
  · intro i s l g H' hi hG hh hf hI
    have h26' := hf.get 48 rfl h26 rfl
    obtain ⟨lt, ix, opt, get, _, wr_, mem⟩ := at_ok (e := strG) (v := .sl 1 (ts.map strG) tag) (.sl _ _) hi (by omega)
    generalize ts[i]'hi = t at opt get mem
    have htake : ts.take (i + 1) = ts.take i ++ [t] := by rw [List.take_add_one, opt]; rfl
    simp only [Holds_cons, Holds_nil, and_true] at hh
    have hlen : (txB (ts.take i)).length ≤ 1000 * 1009 := by
      have h1 := flat_le textB 1009 (ts.take i) (fun t ht => textB_len (hts t (List.mem_of_mem_take ht)))
      have h2 : (ts.take i).length ≤ 1000 := by rw [List.length_take]; omega
      exact Nat.le_trans h1 (Nat.mul_le_mul h2 (Nat.le_refl _))
    obtain ⟨s', H2, c1, g1⟩ := text_specL t (hts t mem) hG.app (hG.step.btle hbt) (by simp only [List.length_append, u8s_length]; omega)
    simp [h26', hI, hh, ix, opt, get, strG, hG.ok, c1, g1.ok]
    intro hf'
    rw [htake]
    simpa [txB, u8s_append] using hG.trans g1
  · intro s l g H' hG hh hf
    simp only [Holds_cons, Holds_nil, and_true] at hh
    rw [List.take_length] at hG
    exact he l g H' s hh hG hf
theorem evBy_assoc (e : Evt) : evBy e = (e.r :: e.c :: e.past).flatMap putB ++ (putB e.op ++ (putB e.x.k ++ (txB [e.x.a, e.x.b, e.x.c, e.x.d] ++ vlB e.vk e.vn e.vt))) := by
  simp [evBy, elBy]
theorem Grown.from {sz : Nat} {H H1 H2 : GH} {s s' : GV} {zs : List GV} (hts : TokStep none H H1) (hs : ∀ t, tokOf s = some t → t < H.toks.length) (h : Grown sz H1 s zs H2 s') : Grown sz H s zs H2 s' := by
  refine ⟨h.app, ?_, ?_⟩
  · exact hts.any.trans h.step
  · rcases h.heir with h1 | h1
    · exact .inl h1
    · exact .inr fun t ht => Nat.le_trans hts.len (h1 t ht)
theorem App.keep {H H1 : GH} {sz : Nat} {s : GV} {xs : List GV} (h : App H sz s xs) (ht : TokStep none H H1) : App H1 sz s xs := by
  cases h with
  | nil => exact .nil
  | exact => exact .exact _
  | tok _ h hb => exact .tok _ (ht.tok _ _ (by simp) h) (by rw [ht.bt]; exact hb)
theorem _root_.Go.Sh.App.tok_lt {H : GH} {sz : Nat} {s : GV} {xs : List GV} (h : App H sz s xs) : ∀ t, tokOf s = some t → t < H.toks.length := by
  intro t ht
  cases h with
  | nil => simp [tokOf] at ht
  | exact => simp [tokOf] at ht
  | tok _ h hb => simp only [tokOf, Option.some.injEq] at ht; subst ht; exact (List.getElem?_eq_some_iff.1 h).1
set_option maxHeartbeats 1000000 in
theorem event_Put (e : Evt) (h : EvS e) {H : GH} {s : GV} {xs : List GV} (ha : App H 1 s xs) (hbt : H.bt ≤ H.toks.length) (hl : xs.length ≤ 2 ^ 36) :
    ∃ s' H', ecall T f_x7 [s, evG e] H = some (s', H') ∧ Grown 1 H s (xs ++ u8s (evBy e)) H' s' := by
  have sp := ev_slarr h.past
  obtain ⟨e18, e19, e20, e21, e22, e23, e24, e25, e26⟩ := ev_gets h.past
  have el := ev_len h.past
  have e0 := ev_0 e
  have e1 := ev_1 e
  have hone := ev_one h.past
  have f0 := get_of e0
  have f1 := get_of e1
  have f18 := get_of e18
  have f19 := get_of e19
  have f20 := get_of e20
  have f21 := get_of e21
  have f22 := get_of e22
  have f23 := get_of e23
  have f24 := get_of e24
  have f25 := get_of e25
  have f26 := get_of e26
  have key : optW (ecall T f_x7 [s, evG e] H) fun r => Grown 1 H s (xs ++ u8s (evBy e)) r.2 r.1 := by
    rw [ecall_0 T_x7 rfl (by simp [F_x7]), wp_fin1]
    simp only [F_x7, b_x7]
    have hvx := h.past
    have hpl : (e.past.map fun n => GV.int .i64 n).length = 16 := by simp [hvx]
    obtain ⟨v1, H1, c1, a1, t1, i1⟩ := append_ok (H := H) (ty := 3) (sz := 1) (bytes := 8) (ys := e.past.map fun n => GV.int .i64 n) (s := .sl 1 [.int .i64 e.r, .int .i64 e.c] .exact) (x := .sl 1 (e.past.map fun n => GV.int .i64 n) .exact) (.exact _) (by simp [gNews]) hbt (by rw [hpl]; simp [room]) (by rw [hpl]; simp [maxLen])
    have hz : [GV.int .i64 e.r, .int .i64 e.c] ++ (e.past.map fun n => GV.int .i64 n) = (e.r :: e.c :: e.past).map fun n => GV.int .i64 n := rfl
    rw [hz] at a1
    have hl1 : (e.r :: e.c :: e.past).length = 18 := by simp [hvx]
    have lc1 := a1.elems.len
    have ho1 := a1.ok
    have hbt1 := t1.btle hbt
    simp only [List.length_map, hl1] at lc1
    simp [ha.ok, el, f0, f1, sp, c1, lc1, ho1, hone, gSetAll]
    rw [wp_seqK, wp_blockK]
    refine ev_nums (e.r :: e.c :: e.past) (by simp [hvx]) v1 a1.elems _ _ H1 s xs (App.keep ha t1) hbt1 (by omega) _ (by simp [a1.elems.boxy]) (by simp [hvx]) (by simp) (by simp) ?_
    intro l2 g2 H2 s2 k2 G2 hf2
    have h3 := hf2.get 3 rfl (v := .el (evC e) 0) (by simp) rfl
    have G2' := Grown.from t1 ha.tok_lt G2
    have hvl := flat_le putB 9 (e.r :: e.c :: e.past) (fun n _ => putB_len n)
    rw [hl1] at hvl
    have hxl := elBy_len h.x
    have bo := putB_len e.op
    have bk := putB_len e.x.k
    have hb2 := G2.step.btle hbt1
    obtain ⟨s3, H3, c3, g3⟩ := put_spec e.op G2.app hb2 (by simp only [List.length_append, u8s_length]; omega)
    obtain ⟨s4, H4, c4, g4⟩ := put_spec e.x.k g3.app (g3.step.btle hb2) (by simp only [List.length_append, u8s_length]; omega)
    have hb4 := g4.step.btle (g3.step.btle hb2)
    simp [h3, k2, el, f18, f19, f20, f21, f22, f23, G2.ok, c3, g3.ok, c4, g4.ok, gSetAll]
    rw [wp_seqK, wp_blockK]
    refine ev_texts [e.x.a, e.x.b, e.x.c, e.x.d] (by have := h.x.a; have := h.x.b; have := h.x.c; have := h.x.d; simp; omega) (by simp) .exact _ _ H4 s4 _ g4.app hb4 (by simp only [List.length_append, u8s_length]; omega) _ (by simp [strG]) (by simp) (by simp) (by simp) ?_
    intro l5 g5 H5 s5 k5 G5 hf5
    have h3' := hf5.get 3 rfl (v := .el (evC e) 0) (by simp [h3]) rfl
    have hb5 := G5.step.btle hb4
    have htx : (txB [e.x.a, e.x.b, e.x.c, e.x.d]).length ≤ 4045 := by have := elBy_len h.x; simp only [elBy, List.length_append] at this; omega
    have bv := putB_len e.vk
    have bn := sigB_len e.vn
    obtain ⟨s6, H6, c6, g6⟩ := put_spec e.vk G5.app hb5 (by simp only [List.length_append, u8s_length]; omega)
    have hb6 := g6.step.btle hb5
    obtain ⟨s7, H7, c7, g7⟩ := signed_spec e.vn g6.app hb6 (by simp only [List.length_append, u8s_length]; omega)
    have hb7 := g7.step.btle hb6
    obtain ⟨s8, H8, c8, g8⟩ := text_specL e.vt h.t g7.app hb7 (by simp only [List.length_append, u8s_length]; omega)
    simp [h3', k5, el, f24, f25, f26, G5.ok, c6, g6.ok, c7, g7.ok, c8, g8.ok]
    have := (((((G2'.trans g3).trans g4).trans G5).trans g6).trans g7).trans g8
    rw [evBy_assoc]
    simpa [vlB, u8s_append] using this
  obtain ⟨⟨s', H'⟩, h1, h2⟩ := key
  exact ⟨s', H', h1, h2⟩
end Go.Proofs.YthmplnbogdfajaaGreatDoor
namespace Go.Proofs.YthmplnbogdfajaaGreatDoor
open Go.Sh
set_option maxRecDepth 100000
theorem clean_list (a b n : Nat) (xs : List GV) (h : ∀ x ∈ xs, clean a b n x = some x) : xs.mapM (clean a b n) = some xs := by
  induction xs with
  | nil => rfl
  | cons x xs ih =>
    rw [List.mapM_cons, h x (by simp), ih (fun y hy => h y (by simp [hy]))]; rfl
theorem clean_elems {a b n : Nat} {sz : Nat} {v : GV} {xs : List GV} (hv : Elems sz v xs) (h : ∀ x ∈ xs, clean a b n x = some x) : ∃ v', clean a b (n + 1) v = some v' ∧ Elems sz v' xs := by
  cases hv with
  | nil => exact ⟨_, rfl, .nil⟩
  | sl xs t =>
    have : clean a b (n + 1) (.sl sz xs t) = some (.sl sz xs (match t with | .tok t pos ty => if t < b then .tok t pos ty else .imm | tag => tag)) := by
      show Option.map _ (xs.mapM (clean a b n)) = _
      rw [clean_list a b n xs h]; rfl
    exact ⟨_, this, .sl _ _⟩
theorem clean_u8s (a b n : Nat) (l : List Int) : ∀ x ∈ u8s l, clean a b (n + 1) x = some x := by
  intro x hx
  simp only [u8s, List.mem_map] at hx
  obtain ⟨y, _, rfl⟩ := hx
  rfl
theorem bytes_nums (kv : List Int) (hk : kv.length = 16) (l0 : List GV) (g0 : Nat) (H0 : GH) (hbt : H0.bt ≤ H0.toks.length) (K : GExit × St → Prop)
    (h18 : lget l0 18 = .agg (kv.map fun n => GV.int .i64 n)) (h19 : lget l0 19 = .int .i64 0) (h5 : lget l0 5 = .nilsl)
    (he : ∀ l g H s, lget l 5 = s → Grown 1 H0 .nilsl (u8s (kv.flatMap putB)) H s → Fr L0_x46 l0 l → K (.exit 0, ⟨⟨l, g⟩, H⟩)) :
    optW (erun T (.loop L0_x46) ⟨⟨l0, g0⟩, H0⟩) K := by
  refine range_loop_c (T := T) (n := 16) (A := GV) (fun _ s => [(5, s)]) (fun i s _ H' => Grown 1 H0 .nilsl (u8s ((kv.take i).flatMap putB)) H' s) (c := 20) (b := 0) (I := 19) (d := 25) rfl (by omega) (by decide) rfl (by simp) ?_ ?_ 0 .nilsl _ _ H0 (by omega) (by simpa [u8s] using Grown.refl .nil) (by simp [h5]) (.refl _ _ _) h19
  · intro i s l g H' hi hG hh hf hI
    have h18' := hf.get 18 rfl h18 rfl
    simp only [Holds_cons, Holds_nil, and_true] at hh
    have hlt : i < kv.length := by rw [hk]; exact hi
    have hix : gIx 16 (.int .i64 (i : Int)) = some i := by simp only [gIx]; rw [if_pos (by omega)]; simp
    have hg : kv[i]? = some kv[i] := List.getElem?_eq_getElem hlt
    have htake : kv.take (i + 1) = kv.take i ++ [kv[i]] := by rw [List.take_add_one, hg]; rfl
    generalize kv[i] = n at hg htake
    have hlen : ((kv.take i).flatMap putB).length ≤ 16 * 9 := by
      have h1 := flat_le putB 9 (kv.take i) (fun t _ => putB_len t)
      have h2 : (kv.take i).length ≤ 16 := by rw [List.length_take]; omega
      exact Nat.le_trans h1 (Nat.mul_le_mul h2 (Nat.le_refl _))
    obtain ⟨s', H2, c1, g1⟩ := put_spec n hG.app (hG.step.btle hbt) (by simp only [u8s_length]; omega)
    simp [h18', hI, hix, hg, hh, hG.ok, c1, g1.ok]
    intro hf'
    rw [htake]
    simpa [u8s_append] using hG.trans g1
  · intro s l g H' hG hh hf
    simp only [Holds_cons, Holds_nil, and_true] at hh
    rw [List.take_of_length_le (by omega)] at hG
    exact he l g H' s hh hG hf
theorem bytes_items (I : List IP) (hI : I.length ≤ 1000) (hok : ∀ p ∈ I, IS p ∧ p.1.L.length ≤ 1000) (v : GV) (hv : Elems 6 v (I.map ipG)) (l0 : List GV) (g0 : Nat) (H0 : GH) (s0 : GV) (xs : List GV) (ha : App H0 1 s0 xs) (hbt : H0.bt ≤ H0.toks.length) (hl : xs.length ≤ 2 ^ 20) (K : GExit × St → Prop)
    (h32 : lget l0 32 = v) (h33 : lget l0 33 = .int .i64 I.length) (h34 : lget l0 34 = .int .i64 0) (h5 : lget l0 5 = s0) (bx : GV) (h1 : lget l0 1 = bx) (hbx : ∃ g cs, bx = .lbox g cs)
    (he : ∀ l g H s, lget l 5 = s → Grown 1 H0 s0 (xs ++ u8s ((I.map (·.1)).flatMap itemBy)) H s → lget l 1 = bx → K (.exit 2, ⟨⟨l, g⟩, H⟩)) :
    optW (erun T (.loop L1_x46) ⟨⟨l0, g0⟩, H0⟩) K := by
  obtain ⟨bg, bcs, rfl⟩ := hbx
  refine range_loop (T := T) (n := I.length) (A := GV) (fun _ s => [(5, s), (1, .lbox bg bcs)]) (fun i s _ H' => Grown 1 H0 s0 (xs ++ u8s (((I.take i).map (·.1)).flatMap itemBy)) H' s) (c := 35) (b := 2) (I := 34) (N := 33) (d := 41) rfl (by omega) (by decide) ⟨rfl, rfl⟩ (by simp) ?_ ?_ 0 s0 _ _ H0 (by omega) (by simpa [u8s] using Grown.refl ha) (by simp [h5, h1]) (.refl _ _ _) h34 h33
  · intro i s l g H' hi hG hh hf hIx
    have h32' := hf.get 32 rfl h32 (by simp [hv.boxy])
    obtain ⟨lt, ix, opt, get, ⟨t, sl⟩, wr_, mem⟩ := at_ok (e := ipG) hv hi (by omega)
    generalize I[i]'hi = p at opt get mem
    obtain ⟨hp, hpL⟩ := hok p mem
    have htake : I.take (i + 1) = I.take i ++ [p] := by rw [List.take_add_one, opt]; rfl
    simp only [Holds_cons, Holds_nil, and_true] at hh
    have hlen : (((I.take i).map (·.1)).flatMap itemBy).length ≤ 1000 * 1100000 := by
      have h1 := flat_le itemBy 1100000 ((I.take i).map (·.1)) (fun q hq => by
        obtain ⟨q', hq', rfl⟩ := List.mem_map.1 hq
        obtain ⟨a, b⟩ := hok q' (List.mem_of_mem_take hq')
        exact itemBy_len a.x b a.fit)
      have h2 : ((I.take i).map (·.1)).length ≤ 1000 := by rw [List.length_map, List.length_take]; omega
      exact Nat.le_trans h1 (Nat.mul_le_mul h2 (Nat.le_refl _))
    obtain ⟨s', H2, c1, g1⟩ := putItem p hp hpL hG.app (hG.step.btle hbt) (by simp only [List.length_append, u8s_length]; omega)
    have hone := hp.el.one
    have hcel := hp.el.cells
    have hok' := hp.el.ok
    simp only [ipG, itemC, elC, List.cons_append, List.nil_append] at c1
    rw [sl] at h32'
    simp [h32', hIx, hh.1, hh.2, ix, opt, get, itemC, elC, setPart, hone, hG.ok, c1, g1.ok]
    intro hf'
    rw [← List.map_take, htake]
    simpa [u8s_append] using hG.trans g1
  · intro s l g H' hG hh hf
    simp only [Holds_cons, Holds_nil, and_true] at hh
    rw [List.take_length] at hG
    exact he l g H' s hh.1 hG hh.2
theorem bytes_events (E : List Evt) (hE : E.length ≤ 1000) (hok : ∀ e ∈ E, EvS e) (v : GV) (hv : Elems 27 v (E.map evG)) (l0 : List GV) (g0 : Nat) (H0 : GH) (s0 : GV) (xs : List GV) (ha : App H0 1 s0 xs) (hbt : H0.bt ≤ H0.toks.length) (hl : xs.length ≤ 2 ^ 32) (K : GExit × St → Prop)
    (h48 : lget l0 48 = v) (h49 : lget l0 49 = .int .i64 E.length) (h50 : lget l0 50 = .int .i64 0) (h5 : lget l0 5 = s0)
    (he : ∀ l g H s, lget l 5 = s → Grown 1 H0 s0 (xs ++ u8s (E.flatMap evBy)) H s → K (.exit 4, ⟨⟨l, g⟩, H⟩)) :
    optW (erun T (.loop L2_x46) ⟨⟨l0, g0⟩, H0⟩) K := by
  refine range_loop (T := T) (n := E.length) (A := GV) (fun _ s => [(5, s)]) (fun i s _ H' => Grown 1 H0 s0 (xs ++ u8s ((E.take i).flatMap evBy)) H' s) (c := 51) (b := 4) (I := 50) (N := 49) (d := 57) rfl (by omega) (by decide) ⟨rfl, rfl⟩ (by simp) ?_ ?_ 0 s0 _ _ H0 (by omega) (by simpa [u8s] using Grown.refl ha) (by simp [h5]) (.refl _ _ _) h50 h49
  · intro i s l g H' hi hG hh hf hIx
    have h48' := hf.get 48 rfl h48 (by simp [hv.boxy])
    obtain ⟨lt, ix, opt, get, ⟨t, sl⟩, wr_, mem⟩ := at_ok (e := evG) hv hi (by omega)
    generalize E[i]'hi = e at opt get mem
    have hfe := hok e mem
    have htake : E.take (i + 1) = E.take i ++ [e] := by rw [List.take_add_one, opt]; rfl
    simp only [Holds_cons, Holds_nil, and_true] at hh
    have hlen : ((E.take i).flatMap evBy).length ≤ 1000 * 6000 := by
      have h1 := flat_le evBy 6000 (E.take i) (fun e he => evBy_len (hok e (List.mem_of_mem_take he)))
      have h2 : (E.take i).length ≤ 1000 := by rw [List.length_take]; omega
      exact Nat.le_trans h1 (Nat.mul_le_mul h2 (Nat.le_refl _))
    obtain ⟨s', H2, c1, g1⟩ := event_Put e hfe hG.app (hG.step.btle hbt) (by simp only [List.length_append, u8s_length]; omega)
    have l1 := ev_len hfe.past
    have l4 : List.take 27 (evC e) = evC e := List.take_of_length_le (by rw [l1]; exact Nat.le_refl _)
    have lo := ev_one hfe.past
    have sp : setPart [GV.int .i64 0, .int .i64 0, .int .i64 0, .int .i64 0, .int .i64 0, .int .i64 0, .int .i64 0, .int .i64 0, .int .i64 0, .int .i64 0, .int .i64 0, .int .i64 0, .int .i64 0, .int .i64 0, .int .i64 0, .int .i64 0, .int .i64 0, .int .i64 0, .int .i64 0, .int .i64 0, .str ⟨#[]⟩, .str ⟨#[]⟩, .str ⟨#[]⟩, .str ⟨#[]⟩, .int .i64 0, .int .i64 0, .str ⟨#[]⟩] 0 (evC e) = some (evC e) := by
      simp only [setPart, l1]; simp
    rw [sl] at h48'
    simp [h48', hIx, hh, ix, opt, get, sp, l1, l4, lo, hG.ok, c1, g1.ok]
    intro hf'
    rw [htake]
    simpa [u8s_append] using hG.trans g1
  · intro s l g H' hG hh hf
    simp only [Holds_cons, Holds_nil, and_true] at hh
    rw [List.take_length] at hG
    exact he l g H' s hh hG
theorem snap_Bytes (kv : List Int) (hk : kv.length = 16) (I : List IP) (hI : I.length ≤ 1000) (hok : ∀ p ∈ I, IS p ∧ p.1.L.length ≤ 1000) (E : List Evt) (hE : E.length ≤ 1000) (hoke : ∀ e ∈ E, EvS e) (vi ve : GV) (hvi : Elems 6 vi (I.map ipG)) (hve : Elems 27 ve (E.map evG)) (H : GH) :
    ∃ v, ecall T f_x46 [.agg (snC kv vi ve)] H = some (.tup [v, .int .i64 (if rightB kv (I.map (·.1)) E then 0 else 1)], H) ∧ Elems 1 v (if rightB kv (I.map (·.1)) E then u8s (snapBy kv (I.map (·.1)) E) else []) := by
  have s16 := sn_16 hk vi ve
  have s16' := sn_16' hk vi ve
  have s17 := sn_17 hk vi ve
  have s17' := sn_17' hk vi ve
  have st := sn_take hk vi ve
  have sl := sn_len hk vi ve
  have s18 : List.take 18 (snC kv vi ve) = snC kv vi ve := List.take_of_length_le (by rw [sl]; exact Nat.le_refl _)
  have li := hvi.len
  have ui := elemsUnbox hvi
  have le := hve.len
  have ue := elemsUnbox hve
  have oi := hvi.ok
  have oe := hve.ok
  have hR := fun H => snap_Right kv hk I (by omega) (fun p hp => (hok p hp).1.ok) E (by omega) (fun e he => (hoke e he).ok) vi ve hvi hve H
  have key : optW (ecall T f_x46 [.agg (snC kv vi ve)] H) fun r => ∃ v, r.1 = .tup [v, .int .i64 (if rightB kv (I.map (·.1)) E then 0 else 1)] ∧ r.2 = H ∧ Elems 1 v (if rightB kv (I.map (·.1)) E then u8s (snapBy kv (I.map (·.1)) E) else []) := by
    rw [ecall_1 T_x46 rfl (by simp [F_x46]), wp_fin1]
    simp only [F_x46, b_x46]
    cases hb : rightB kv (I.map (·.1)) E with
    | false =>
      rw [hb] at hR
      have hcl : clean H.objs.length H.toks.length 100 (.tup [.nilsl, .int .i64 1]) = some (.tup [.nilsl, .int .i64 1]) := rfl
      simp [sl, s18, hR, hcl]
      exact .nil
    | true =>
      rw [hb] at hR
      have hbt : H.over.bt ≤ H.over.toks.length := Nat.le_refl _
      simp [sl, s18, hR]
      rw [wp_seqK, wp_blockK]
      refine bytes_nums kv hk _ _ H.over hbt _ (by simp [st]) (by simp) (by simp) ?_
      intro l2 g2 H2 s2 k2 G2 hf2
      have h1 := hf2.get 1 rfl (v := .lbox 0 (snC kv vi ve)) (by simp) rfl
      have hb2 := G2.step.btle hbt
      have n1 := flat_le putB 9 kv (fun n _ => putB_len n)
      rw [hk] at n1
      have n2 := putB_len I.length
      obtain ⟨s3, H3, c3, g3⟩ := put_spec I.length G2.app hb2 (by simp only [u8s_length]; omega)
      have hb3 := g3.step.btle hb2
      simp [h1, k2, sl, s16, s16', li, ui, oi, G2.ok, c3, g3.ok]
      rw [wp_seqK, wp_blockK]
      refine bytes_items I hI hok vi hvi _ _ H3 s3 _ g3.app hb3 (by simp only [List.length_append, u8s_length]; omega) _ (by simp [ui]) (by simp) (by simp) (by simp) (.lbox 0 (snC kv vi ve)) (by simp [h1]) ⟨_, _, rfl⟩ ?_
      intro l4 g4 H4 s4 k4 G4 h1'
      have hb4 := G4.step.btle hb3
      have n4 : ((I.map (·.1)).flatMap itemBy).length ≤ 1000 * 1100000 := by
        have h1 := flat_le itemBy 1100000 (I.map (·.1)) (fun q hq => by
          obtain ⟨q', hq', rfl⟩ := List.mem_map.1 hq
          obtain ⟨a, b⟩ := hok q' hq'
          exact itemBy_len a.x b a.fit)
        have h2 : (I.map (·.1)).length ≤ 1000 := by rw [List.length_map]; omega
        exact Nat.le_trans h1 (Nat.mul_le_mul h2 (Nat.le_refl _))
      have n5 := putB_len E.length
      obtain ⟨s5, H5, c5, g5⟩ := put_spec E.length G4.app hb4 (by simp only [List.length_append, u8s_length]; omega)
      have hb5 := g5.step.btle hb4
      simp [h1', k4, sl, s17, s17', le, ue, oe, G4.ok, c5, g5.ok]
      rw [wp_seqK, wp_blockK]
      refine bytes_events E hE hoke ve hve _ _ H5 s5 _ g5.app hb5 (by simp only [List.length_append, u8s_length]; omega) _ (by simp [ue]) (by simp) (by simp) (by simp) ?_
      intro l6 g6 H6 s6 k6 G6
      have hA := G6.app.elems
      obtain ⟨s7, hc, hE7⟩ := clean_elems (a := H.objs.length) (b := H.toks.length) (n := 98) hA (fun x hx => by
        have hl : u8s (kv.flatMap putB ++ putB I.length ++ (I.map (·.1)).flatMap itemBy ++ putB E.length ++ E.flatMap evBy) = u8s (kv.flatMap putB) ++ u8s (putB I.length) ++ u8s ((I.map (·.1)).flatMap itemBy) ++ u8s (putB E.length) ++ u8s (E.flatMap evBy) := by simp only [u8s_append]
        rw [← hl] at hx
        exact clean_u8s _ _ 97 _ x hx)
      have hcl : clean H.objs.length H.toks.length 100 (.tup [s6, .int .i64 0]) = some (.tup [s7, .int .i64 0]) := by
        show Option.map GV.tup (List.mapM (clean H.objs.length H.toks.length 99) [s6, .int .i64 0]) = _
        simp only [List.mapM_cons, List.mapM_nil, hc]; rfl
      simp [k6, G6.ok, hcl]
      simpa [snapBy, u8s_append] using hE7
  obtain ⟨⟨v, H'⟩, h1, w, h2, h3, h4⟩ := key
  simp only at h2 h3
  subst h3
  exact ⟨w, by rw [h1, h2], h4⟩
end Go.Proofs.YthmplnbogdfajaaGreatDoor
