/- Own work: the shadow machine and what it shows, part Re. -/
import Derived.Test.YthbhfipgdinihaaGreatDoorBy
set_option linter.all false

namespace Go.Proofs.YthbhfipgdinihaaGreatDoor
open Go.Sh
set_option maxRecDepth 100000

/-- A row of bytes that the reference has made: nobody writes to it again. -/
structure Made (H : GH) (zs : List GV) (H' : GH) (s' : GV) : Prop where
  el : Elems 1 s' zs
  step : TokStep none H H'

theorem Made.trans {H H1 H2 : GH} {xs ys : List GV} {s1 s2 : GV} (h : Made H xs H1 s1) (h' : Made H1 ys H2 s2) : Made H ys H2 s2 := ⟨h'.el, h.step.trans h'.step⟩
theorem Made.ok {H H1 : GH} {xs : List GV} {s1 : GV} (h : Made H xs H1 s1) : s1.ok = true := h.el.ok
theorem Made.btle {H H1 : GH} {xs : List GV} {s1 : GV} (h : Made H xs H1 s1) (hb : H.bt ≤ H.toks.length) : H1.bt ≤ H1.toks.length := h.step.btle hb
theorem Made.refl {H : GH} {xs : List GV} {s : GV} (h : Elems 1 s xs) : Made H xs H s := ⟨h, .refl _ _⟩

theorem rput {H : GH} {s : GV} {xs : List GV} (n : Int) (ha : Elems 1 s xs) (hbt : H.bt ≤ H.toks.length) (hl : xs.length ≤ 2 ^ 39) :
    ∃ s' H', ecall T f_hedgerowref02_Put [s, .int .i64 n] H = some (s', H') ∧ Made H (xs ++ u8s (putB n)) H' s' := by
  obtain ⟨s', H', h1, h2, h3, _⟩ := refPut_spec n ha hbt hl
  exact ⟨s', H', h1, h2, h3⟩
theorem rsigned {H : GH} {s : GV} {xs : List GV} (n : Int) (ha : Elems 1 s xs) (hbt : H.bt ≤ H.toks.length) (hl : xs.length ≤ 2 ^ 39) :
    ∃ s' H', ecall T f_hedgerowref02_Signed [s, .int .i64 n] H = some (s', H') ∧ Made H (xs ++ u8s (sigB n)) H' s' := by
  obtain ⟨s', H', h1, h2, h3⟩ := refSigned_spec n ha hbt hl
  exact ⟨s', H', h1, h2, h3⟩
theorem rtext {H : GH} {s : GV} {xs : List GV} (t : List UInt8) (ht : t.length ≤ 1000) (ha : Elems 1 s xs) (hbt : H.bt ≤ H.toks.length) (hl : xs.length ≤ 2 ^ 39) :
    ∃ s' H', ecall T f_hedgerowref02_Text [s, .str (mkB t)] H = some (s', H') ∧ Made H (xs ++ u8s (textB t)) H' s' := by
  obtain ⟨s', H', h1, h2, h3⟩ := refText_spec (mkB t) (by rw [mkB_size]; omega) ha hbt hl
  rw [bytesGV_mk, mkB_size] at h2
  exact ⟨s', H', h1, by simpa [textB, u8s_append] using h2, h3⟩

theorem rev_past (ns : List Int) (hk : ns.length = 16) (l0 : List GV) (g0 : Nat) (H0 : GH) (s0 : GV) (xs : List GV) (ha : Elems 1 s0 xs) (hl : xs.length ≤ 2 ^ 38) (hbt : H0.bt ≤ H0.toks.length) (K : GExit × St → Prop)
    (h19 : lget l0 19 = .agg (ns.map fun n => GV.int .i64 n)) (h20 : lget l0 20 = .int .i64 0) (h0 : lget l0 0 = s0)
    (he : ∀ l g H s, lget l 0 = s → Made H0 (xs ++ u8s (ns.flatMap putB)) H s → Fr L0_hedgerowref06_Put l0 l → K (.exit 0, ⟨⟨l, g⟩, H⟩)) :
    optW (erun T (.loop L0_hedgerowref06_Put) ⟨⟨l0, g0⟩, H0⟩) K := by
  refine range_loop_c (T := T) (n := 16) (A := GV) (fun _ s => [(0, s)]) (fun i s _ H' => Made H0 (xs ++ u8s ((ns.take i).flatMap putB)) H' s) (c := 21) (b := 0) (I := 20) (d := 26) rfl (by omega) (by decide) rfl (by simp) ?_ ?_ 0 s0 _ _ H0 (by omega) (by simpa [u8s] using Made.refl ha) (by simp [h0]) (.refl _ _ _) h20
  · intro i s l g H' hi hG hh hf hI
    have h19' := hf.get 19 rfl h19 rfl
    simp only [Holds_cons, Holds_nil, and_true] at hh
    have hlt : i < ns.length := by rw [hk]; exact hi
    have hix : gIx 16 (.int .i64 (i : Int)) = some i := by simp only [gIx]; rw [if_pos (by omega)]; simp
    have hg : ns[i]? = some ns[i] := List.getElem?_eq_getElem hlt
    have htake : ns.take (i + 1) = ns.take i ++ [ns[i]] := by rw [List.take_add_one, hg]; rfl
    generalize ns[i] = n at hg htake
    have hlen : ((ns.take i).flatMap putB).length ≤ 16 * 9 := by
      have h1 := flat_le putB 9 (ns.take i) (fun t _ => putB_len t)
      have h2 : (ns.take i).length ≤ 16 := by rw [List.length_take]; omega
      exact Nat.le_trans h1 (Nat.mul_le_mul h2 (Nat.le_refl _))
    obtain ⟨s', H2, c1, g1⟩ := rput n hG.el (hG.btle hbt) (by simp only [List.length_append, u8s_length]; omega)
    simp [h19', hI, hix, hg, hh, hG.ok, c1, g1.ok]
    intro hf'
    rw [htake]
    simpa [u8s_append] using hG.trans g1
  · intro s l g H' hG hh hf
    simp only [Holds_cons, Holds_nil, and_true] at hh
    rw [List.take_of_length_le (by omega)] at hG
    exact he l g H' s hh hG hf

theorem rev_texts (ts : List (List UInt8)) (hts : ∀ t ∈ ts, t.length ≤ 1000) (hn : ts.length ≤ 1000) (tag : Tag) (l0 : List GV) (g0 : Nat) (H0 : GH) (s0 : GV) (xs : List GV) (ha : Elems 1 s0 xs) (hbt : H0.bt ≤ H0.toks.length) (hl : xs.length ≤ 2 ^ 38) (K : GExit × St → Prop)
    (h26 : lget l0 47 = .sl 1 (ts.map strG) tag) (h27 : lget l0 48 = .int .i64 ts.length) (h28 : lget l0 49 = .int .i64 0) (h0 : lget l0 0 = s0)
    (he : ∀ l g H s, lget l 0 = s → Made H0 (xs ++ u8s (txB ts)) H s → Fr L1_hedgerowref06_Put l0 l → K (.exit 2, ⟨⟨l, g⟩, H⟩)) :
    optW (erun T (.loop L1_hedgerowref06_Put) ⟨⟨l0, g0⟩, H0⟩) K := by
  refine range_loop (T := T) (n := ts.length) (A := GV) (fun _ s => [(0, s)]) (fun i s _ H' => Made H0 (xs ++ u8s (txB (ts.take i))) H' s) (c := 50) (b := 2) (I := 49) (N := 48) (d := 56) rfl (by omega) (by decide) ⟨rfl, rfl⟩ (by simp) ?_ ?_ 0 s0 _ _ H0 (by omega) (by simpa [txB, u8s] using Made.refl ha) (by simp [h0]) (.refl _ _ _) h28 h27
  · intro i s l g H' hi hG hh hf hI
    have h26' := hf.get 47 rfl h26 rfl
    obtain ⟨lt, ix, opt, get, _, wr_, mem⟩ := at_ok (e := strG) (v := .sl 1 (ts.map strG) tag) (.sl _ _) hi (by omega)
    generalize ts[i]'hi = t at opt get mem
    have htake : ts.take (i + 1) = ts.take i ++ [t] := by rw [List.take_add_one, opt]; rfl
    simp only [Holds_cons, Holds_nil, and_true] at hh
    have hlen : (txB (ts.take i)).length ≤ 1000 * 1009 := by
      have h1 := flat_le textB 1009 (ts.take i) (fun t ht => textB_len (hts t (List.mem_of_mem_take ht)))
      have h2 : (ts.take i).length ≤ 1000 := by rw [List.length_take]; omega
      exact Nat.le_trans h1 (Nat.mul_le_mul h2 (Nat.le_refl _))
    obtain ⟨s', H2, c1, g1⟩ := rtext t (hts t mem) hG.el (hG.btle hbt) (by simp only [List.length_append, u8s_length]; omega)
    simp [h26', hI, hh, ix, opt, get, strG, hG.ok, c1, g1.ok]
    intro hf'
    rw [htake]
    simpa [txB, u8s_append] using hG.trans g1
  · intro s l g H' hG hh hf
    simp only [Holds_cons, Holds_nil, and_true] at hh
    rw [List.take_length] at hG
    exact he l g H' s hh hG hf

set_option maxHeartbeats 1000000 in
theorem ref_EvPut (e : Evt) (h : EvS e) {H : GH} {s : GV} {xs : List GV} (ha : Elems 1 s xs) (hbt : H.bt ≤ H.toks.length) (hl : xs.length ≤ 2 ^ 36) :
    ∃ s' H', ecall T f_hedgerowref06_Put [s, evG e] H = some (s', H') ∧ Made H (xs ++ u8s (evBy e)) H' s' := by
  have sp := ev_past h.past
  obtain ⟨e18, e19, e20, e21, e22, e23, e24, e25, e26⟩ := ev_gets h.past
  have el := ev_len h.past
  have f0 := get_of (ev_0 e)
  have f1 := get_of (ev_1 e)
  have f18 := get_of e18
  have f19 := get_of e19
  have f20 := get_of e20
  have f21 := get_of e21
  have f22 := get_of e22
  have f23 := get_of e23
  have f24 := get_of e24
  have f25 := get_of e25
  have f26 := get_of e26
  have hone := ev_one h.past
  have key : optW (ecall T f_hedgerowref06_Put [s, evG e] H) fun r => Made H (xs ++ u8s (evBy e)) r.2 r.1 := by
    rw [ecall_0 T_hedgerowref06_Put rfl (by simp [F_hedgerowref06_Put]), wp_fin1]
    simp only [F_hedgerowref06_Put, b_hedgerowref06_Put]
    have b1 := putB_len e.r
    have b2 := putB_len e.c
    obtain ⟨s1, H1, c1, g1⟩ := rput (H := H) e.r ha hbt (by omega)
    have hb1 := g1.btle hbt
    obtain ⟨s2, H2, c2, g2⟩ := rput e.c g1.el hb1 (by simp only [List.length_append, u8s_length]; omega)
    have hb2 := g2.btle hb1
    simp [ha.ok, el, f0, f1, sp, c1, g1.ok, c2, g2.ok]
    rw [wp_seqK, wp_blockK]
    refine rev_past e.past h.past _ _ H2 s2 _ g2.el (by simp only [List.length_append, u8s_length]; omega) hb2 _ (by simp) (by simp) (by simp) ?_
    intro l3 n3 H3 s3 k3 G3 hf3
    have h3 := hf3.get 3 rfl (v := .lbox 0 (evC e)) (by simp) rfl
    have hb3 := G3.btle hb2
    have hvl := flat_le putB 9 e.past (fun n _ => putB_len n)
    rw [h.past] at hvl
    have bo := putB_len e.op
    have bk := putB_len e.x.k
    obtain ⟨s4, H4, c4, g4⟩ := rput e.op G3.el hb3 (by simp only [List.length_append, u8s_length]; omega)
    have hb4 := g4.btle hb3
    obtain ⟨s5, H5, c5, g5⟩ := rput e.x.k g4.el hb4 (by simp only [List.length_append, u8s_length]; omega)
    have hb5 := g5.btle hb4
    simp [h3, k3, el, f18, f19, f20, f21, f22, f23, G3.ok, c4, g4.ok, c5, g5.ok, gSetAll]
    rw [wp_seqK, wp_blockK]
    refine rev_texts [e.x.a, e.x.b, e.x.c, e.x.d] (by have := h.x.a; have := h.x.b; have := h.x.c; have := h.x.d; simp; omega) (by simp) .exact _ _ H5 s5 _ g5.el hb5 (by simp only [List.length_append, u8s_length]; omega) _ (by simp [strG]) (by simp) (by simp) (by simp) ?_
    intro l6 n6 H6 s6 k6 G6 hf6
    have h3' := hf6.get 3 rfl (v := .lbox 0 (evC e)) (by simp [h3]) rfl
    have hb6 := G6.btle hb5
    have htx : (txB [e.x.a, e.x.b, e.x.c, e.x.d]).length ≤ 4045 := by have := elBy_len h.x; simp only [elBy, List.length_append] at this; omega
    have bv := putB_len e.vk
    have bn := sigB_len e.vn
    obtain ⟨s7, H7, c7, g7⟩ := rput e.vk G6.el hb6 (by simp only [List.length_append, u8s_length]; omega)
    have hb7 := g7.btle hb6
    obtain ⟨s8, H8, c8, g8⟩ := rsigned e.vn g7.el hb7 (by simp only [List.length_append, u8s_length]; omega)
    have hb8 := g8.btle hb7
    obtain ⟨s9, H9, c9, g9⟩ := rtext e.vt h.t g8.el hb8 (by simp only [List.length_append, u8s_length]; omega)
    simp [h3', k6, el, f24, f25, f26, G6.ok, c7, g7.ok, c8, g8.ok, c9, g9.ok]
    have := (((((((g1.trans g2).trans G3).trans g4).trans g5).trans G6).trans g7).trans g8).trans g9
    rw [evBy_assoc]
    simpa [vlB, u8s_append] using this
  obtain ⟨⟨s', H'⟩, h1, h2⟩ := key
  exact ⟨s', H', h1, h2⟩
end Go.Proofs.YthbhfipgdinihaaGreatDoor

namespace Go.Proofs.YthbhfipgdinihaaGreatDoor
open Go.Sh
set_option maxRecDepth 100000

theorem App.keep' {H H1 : GH} {own : Option Nat} {sz : Nat} {s : GV} {xs : List GV} (h : App H sz s xs) (ht : TokStep own H H1) (hn : ∀ t, tokOf s = some t → own ≠ some t) : App H1 sz s xs := by
  cases h with
  | nil => exact .nil
  | exact => exact .exact _
  | tok _ h hb => exact .tok _ (ht.tok _ _ (hn _ rfl) h) (by rw [ht.bt]; exact hb)

abbrev dotG (e : Ent) : GV := .agg [.int .i64 e.r, .int .i64 e.c]
abbrev valG (e : Ent) : GV := .agg [.int .i64 e.k, .int .i64 e.n, .str (mkB e.t)]

/-- Two rows that grow at once. -/
structure Two (H0 : GH) (ds vs : List GV) (H : GH) (d v : GV) : Prop where
  da : App H 2 d ds
  va : App H 3 v vs
  step : TokStep none H0 H
  dn : ∀ t, tokOf d = some t → H0.toks.length ≤ t
  vn : ∀ t, tokOf v = some t → H0.toks.length ≤ t
  ne : ∀ t, tokOf d = some t → tokOf v ≠ some t

theorem Two.start (H : GH) : Two H [] [] H .nilsl .nilsl := ⟨.nil, .nil, .refl _ _, by simp [tokOf], by simp [tokOf], by simp [tokOf]⟩

theorem TokStep.fresh {H0 H H' : GH} {own : Option Nat} (h : TokStep none H0 H) (h' : TokStep own H H') (hn : ∀ t, own = some t → H0.toks.length ≤ t) : TokStep none H0 H' :=
  ⟨h'.objs.trans h.objs, h'.bo.trans h.bo, h'.bt.trans h.bt, Nat.le_trans h.len h'.len, fun t p _ hp => h'.tok t p (fun e => by
    have := hn t e
    have := (List.getElem?_eq_some_iff.1 hp).1
    omega) (h.tok t p (by simp) hp)⟩

theorem Two.grow {H0 H : GH} {ds vs : List GV} {d v : GV} (h : Two H0 ds vs H d v) (hbt : H0.bt ≤ H0.toks.length) (x y : GV) (hd : ds.length ≤ 2 ^ 20) (hv : vs.length ≤ 2 ^ 20) (t1 t2 : Nat) :
    ∃ d' v' H1 H', gAppend H t1 2 16 d (.sl 2 [x] .exact) = some (d', H1) ∧ gAppend H1 t2 3 32 v (.sl 3 [y] .exact) = some (v', H') ∧ d'.ok = true ∧ v'.ok = true ∧ Two H0 (ds ++ [x]) (vs ++ [y]) H' d' v' := by
  have hb := h.step.btle hbt
  obtain ⟨d', H1, a1, a2, a3, a4⟩ := append_ok (ty := t1) (bytes := 16) (ys := [x]) (x := .sl 2 [x] .exact) h.da (by simp [gNews]) hb (by simp only [List.length_singleton, room]; omega) (by simp only [List.length_singleton, maxLen]; omega)
  have hva := App.keep' h.va a3 (fun t ht e => h.ne t e ht)
  have hb1 := a3.btle hb
  obtain ⟨v', H', b1, b2, b3, b4⟩ := append_ok (ty := t2) (bytes := 32) (ys := [y]) (x := .sl 3 [y] .exact) hva (by simp [gNews]) hb1 (by simp only [List.length_singleton, room]; omega) (by simp only [List.length_singleton, maxLen]; omega)
  have dn' : ∀ t, tokOf d' = some t → H0.toks.length ≤ t := fun t ht => by
    rcases a4 with e | e
    · exact h.dn t (e ▸ ht)
    · exact Nat.le_trans h.step.len (e t ht)
  have vlt := h.va.tok_lt
  have dlt := a2.tok_lt
  have ne1 : ∀ t, tokOf d' = some t → tokOf v ≠ some t := fun t ht hv => by
    rcases a4 with e | e
    · exact h.ne t (e ▸ ht) hv
    · have := e t ht; have := vlt t hv; omega
  refine ⟨d', v', H1, H', a1, b1, a2.ok, b2.ok, ⟨App.keep' a2 b3 (fun t ht e => ne1 t ht e), b2, ?_, dn', ?_, ?_⟩⟩
  · exact TokStep.fresh (TokStep.fresh h.step a3 h.dn) b3 h.vn
  · intro t ht
    rcases b4 with e | e
    · exact h.vn t (e ▸ ht)
    · exact Nat.le_trans (Nat.le_trans h.step.len a3.len) (e t ht)
  · intro t ht hv
    rcases b4 with e | e
    · exact ne1 t ht (e ▸ hv)
    · have := e t hv; have := dlt t ht; omega

theorem items_entries (x : El) (L : List Ent) (hL : L.length ≤ 1000) (v : GV) (hv : Elems 5 v (L.map entG)) (l0 : List GV) (g0 : Nat) (H0 : GH) (hbt : H0.bt ≤ H0.toks.length) (K : GExit × St → Prop) (s3 : GV) (g6 : Nat)
    (h19 : lget l0 19 = v) (h20 : lget l0 20 = .int .i64 L.length) (h21 : lget l0 21 = .int .i64 0) (h3 : lget l0 3 = s3) (h6 : lget l0 6 = .lbox g6 (elC x ++ [.nilsl, .nilsl]))
    (he : ∀ l g H d w, lget l 6 = .lbox g6 (elC x ++ [d, w]) → Two H0 (L.map dotG) (L.map valG) H d w → Fr L0_hedgerowlaw12_items l0 l → K (.exit 2, ⟨⟨l, g⟩, H⟩)) :
    optW (erun T (.loop L0_hedgerowlaw12_items) ⟨⟨l0, g0⟩, H0⟩) K := by
  refine range_loop (T := T) (n := L.length) (A := GV × GV) (fun _ s => [(6, .lbox g6 (elC x ++ [s.1, s.2]))]) (fun i s _ H' => Two H0 ((L.take i).map dotG) ((L.take i).map valG) H' s.1 s.2) (c := 22) (b := 2) (I := 21) (N := 20) (d := 39) rfl (by omega) (by decide) ⟨rfl, rfl⟩ (by simp) ?_ ?_ 0 (.nilsl, .nilsl) _ _ H0 (by omega) (by simpa using Two.start H0) (by simp [h6]) (.refl _ _ _) h21 h20
  · intro i s l g H' hi hG hh hf hI
    obtain ⟨d, w⟩ := s
    simp only at hG hh
    have h19' := hf.get 19 rfl h19 (by simp [hv.boxy])
    obtain ⟨lt, ix, opt, get, ⟨t, sl⟩, wr_, mem⟩ := at_ok (e := entG) hv hi (by omega)
    generalize L[i]'hi = e at opt get mem
    have htake : L.take (i + 1) = L.take i ++ [e] := by rw [List.take_add_one, opt]; rfl
    simp only [Holds_cons, Holds_nil, and_true] at hh
    have hl : (L.take i).length ≤ 1000 := by rw [List.length_take]; omega
    obtain ⟨d', w', H1, H2, a1, a2, o1, o2, hT⟩ := hG.grow hbt (dotG e) (valG e) (by rw [List.length_map]; omega) (by rw [List.length_map]; omega) 43 47
    have od := hG.da.ok
    have ow := hG.va.ok
    have c1 := hG.da.elems.cells
    have c2 := hG.va.elems.cells
    have c3 := hT.da.elems.cells
    have c4 := hT.va.elems.cells
    have n1 := hT.da.elems.one
    have n2 := hT.va.elems.one
    simp only [elC, List.cons_append, List.nil_append] at hh
    rw [sl] at h19'
    simp [gSetAll, h19', hI, hh, ix, opt, get, entC, setPart, od, ow, a1, a2, o1, o2, c3, c4, n1, n2]
    refine fun _ => ⟨d', w', ?_, ?_⟩
    · rw [← List.map_take, ← List.map_take, htake]
      simpa using hT
    · simp [elC]
  · intro s l g H' hG hh hf
    obtain ⟨d, w⟩ := s
    simp only [Holds_cons, Holds_nil, and_true] at hh
    simp only [List.take_length] at hG
    exact he l g H' d w hh hG hf

abbrev RP := Itm × GV × GV
abbrev riG (p : RP) : GV := .agg (elC p.1.x ++ [p.2.1, p.2.2])
structure ROk (p : RP) : Prop where
  d : Elems 2 p.2.1 (p.1.L.map dotG)
  v : Elems 3 p.2.2 (p.1.L.map valG)

theorem items_all (I : List IP) (hI : I.length ≤ 1000) (hok : ∀ p ∈ I, IS p ∧ p.1.L.length ≤ 1000) (v : GV) (hv : Elems 6 v (I.map ipG)) (l0 : List GV) (g0 : Nat) (H0 : GH) (hbt : H0.bt ≤ H0.toks.length) (K : GExit × St → Prop)
    (h9 : lget l0 9 = v) (h10 : lget l0 10 = .int .i64 I.length) (h11 : lget l0 11 = .int .i64 0) (h3 : lget l0 3 = .nilsl)
    (he : ∀ l g H (R : List RP) s, lget l 3 = s → R.map (·.1) = I.map (·.1) → (∀ p ∈ R, ROk p) → App H 7 s (R.map riG) → TokStep none H0 H → K (.exit 0, ⟨⟨l, g⟩, H⟩)) :
    optW (erun T (.loop L1_hedgerowlaw12_items) ⟨⟨l0, g0⟩, H0⟩) K := by
  refine range_loop (T := T) (n := I.length) (A := GV) (fun _ s => [(3, s)]) (fun i s _ H' => ∃ R : List RP, R.map (·.1) = (I.take i).map (·.1) ∧ (∀ p ∈ R, ROk p) ∧ App H' 7 s (R.map riG) ∧ TokStep none H0 H' ∧ ∀ t, tokOf s = some t → H0.toks.length ≤ t) (c := 12) (b := 0) (I := 11) (N := 10) (d := 44) rfl (by omega) (by decide) ⟨rfl, rfl⟩ (by simp) ?_ ?_ 0 .nilsl _ _ H0 (by omega) ⟨[], rfl, by simp, .nil, .refl _ _, by simp [tokOf]⟩ (by simp [h3]) (.refl _ _ _) h11 h10
  · intro i s l g H' hi hG hh hf hI
    obtain ⟨R, hR, hRk, hA, hS, hN⟩ := hG
    have h9' := hf.get 9 rfl h9 (by simp [hv.boxy])
    obtain ⟨lt, ix, opt, get, ⟨t, sl⟩, wr_, mem⟩ := at_ok (e := ipG) hv hi (by omega)
    generalize I[i]'hi = p at opt get mem
    obtain ⟨hp, hpL⟩ := hok p mem
    have htake : I.take (i + 1) = I.take i ++ [p] := by rw [List.take_add_one, opt]; rfl
    simp only [Holds_cons, Holds_nil, and_true] at hh
    have hone := hp.el.one
    have hok' := hp.el.ok
    have hle := hp.el.len
    have hue := elemsUnbox hp.el
    have hb := hS.btle hbt
    have hso := hA.ok
    rw [sl] at h9'
    simp [gSetAll, gFill, h9', hI, hh, ix, opt, get, itemC, elC, setPart, hone, hok', hle, hue]
    rw [wp_blockK, wp_seqK, wp_blockK]
    refine items_entries p.1.x p.1.L hpL p.2 hp.el _ _ H' hb _ s (g + 1) (by simp [hue]) (by simp) (by simp) (by simp [hh]) (by simp [elC]) ?_
    intro l2 g2 H2 d w k6 hT hf2
    have hA2 := App.keep hA hT.step
    have hb2 := hT.step.btle hb
    have hRl : R.length ≤ 1000 := by have := congrArg List.length hR; simp only [List.length_map, List.length_take] at this; omega
    obtain ⟨s', H3, c1, a1, t1, i1⟩ := append_ok (ty := 137) (bytes := 120) (ys := [riG (p.1, d, w)]) (x := .sl 7 [riG (p.1, d, w)] .exact) hA2 (by simp [gNews]) hb2 (by simp only [List.length_singleton, List.length_map, room]; omega) (by simp only [List.length_singleton, List.length_map, maxLen]; omega)
    have k3 := hf2.get 3 rfl (v := s) (by simp [hh]) (by simp [hA.elems.boxy])
    have nd := hT.da.elems.one
    have nw := hT.va.elems.one
    have od := hT.da.ok
    have ow := hT.va.ok
    simp only [riG, elC, List.cons_append, List.nil_append] at c1 k6
    simp [gSetAll, k3, k6, hso, nd, nw, od, ow, c1, a1.ok]
    refine fun _ => ⟨R ++ [(p.1, d, w)], ?_, ?_, ?_, ?_, ?_⟩
    · rw [← List.map_take, htake]; simp [hR]
    · intro a b c hm
      rcases List.mem_append.1 hm with hm | hm
      · exact hRk _ hm
      · simp only [List.mem_singleton, Prod.mk.injEq] at hm
        obtain ⟨rfl, rfl, rfl⟩ := hm
        exact ⟨hT.da.elems, hT.va.elems⟩
    · simpa using a1
    · exact TokStep.fresh (hS.trans hT.step) t1 hN
    · intro t ht
      rcases i1 with e | e
      · exact hN t (e ▸ ht)
      · exact Nat.le_trans (hS.trans hT.step).len (e t ht)
  · intro s l g H' hG hh hf
    obtain ⟨R, hR, hRk, hA, hS, hN⟩ := hG
    simp only [Holds_cons, Holds_nil, and_true] at hh
    rw [List.take_length] at hR
    exact he l g H' R s hh hR hRk hA hS

theorem clean_sl {a b n sz : Nat} {v : GV} {xs ys : List GV} (hv : Elems sz v xs) (h : xs.mapM (clean a b n) = some ys) : ∃ v', clean a b (n + 1) v = some v' ∧ Elems sz v' ys := by
  cases hv with
  | nil =>
    have : ys = [] := (Option.some.inj h).symm
    exact ⟨_, rfl, by rw [this]; exact .nil⟩
  | sl xs t =>
    have : clean a b (n + 1) (.sl sz xs t) = some (.sl sz ys (match t with | .tok t pos ty => if t < b then .tok t pos ty else .imm | tag => tag)) := by
      show Option.map _ (xs.mapM (clean a b n)) = _
      rw [h]; rfl
    exact ⟨_, this, .sl _ _⟩

theorem clean_R (a b : Nat) : ∀ R : List RP, (∀ p ∈ R, ROk p) → ∃ R' : List RP, (R.map riG).mapM (clean a b 99) = some (R'.map riG) ∧ R'.map (·.1) = R.map (·.1) ∧ ∀ p ∈ R', ROk p
  | [], _ => ⟨[], rfl, rfl, by simp⟩
  | p :: R, h => by
    obtain ⟨R', h1, h2, h3⟩ := clean_R a b R (fun q hq => h q (by simp [hq]))
    obtain ⟨hd, hv⟩ := h p (by simp)
    obtain ⟨d', d1, d2⟩ := clean_elems (a := a) (b := b) (n := 97) hd (fun x hx => by
      obtain ⟨e, _, rfl⟩ := List.mem_map.1 hx; rfl)
    obtain ⟨v', v1, v2⟩ := clean_elems (a := a) (b := b) (n := 97) hv (fun x hx => by
      obtain ⟨e, _, rfl⟩ := List.mem_map.1 hx; rfl)
    refine ⟨(p.1, d', v') :: R', ?_, by simp [h2], ?_⟩
    · have : clean a b 99 (riG p) = some (riG (p.1, d', v')) := by
        show Option.map GV.agg (List.mapM (clean a b 98) (elC p.1.x ++ [p.2.1, p.2.2])) = _
        simp only [elC, List.cons_append, List.nil_append, List.mapM_cons, List.mapM_nil, d1, v1, clean_int, clean_str]
        rfl
      rw [List.map_cons, List.mapM_cons, this, h1]; rfl
    · intro q hq
      rcases List.mem_cons.1 hq with rfl | hq
      · exact ⟨d2, v2⟩
      · exact h3 q hq

theorem law_items (I : List IP) (hI : I.length ≤ 1000) (hok : ∀ p ∈ I, IS p ∧ p.1.L.length ≤ 1000) (v : GV) (hv : Elems 6 v (I.map ipG)) (H : GH) :
    ∃ (s : GV) (R : List RP), ecall T f_hedgerowlaw12_items [v] H = some (s, H) ∧ Elems 7 s (R.map riG) ∧ R.map (·.1) = I.map (·.1) ∧ ∀ p ∈ R, ROk p := by
  have li := hv.len
  have ui := elemsUnbox hv
  have oi := hv.ok
  have key : optW (ecall T f_hedgerowlaw12_items [v] H) fun r => r.2 = H ∧ ∃ R : List RP, Elems 7 r.1 (R.map riG) ∧ R.map (·.1) = I.map (·.1) ∧ ∀ p ∈ R, ROk p := by
    rw [ecall_1 T_hedgerowlaw12_items rfl (by simp [F_hedgerowlaw12_items]), wp_fin1]
    simp only [F_hedgerowlaw12_items, b_hedgerowlaw12_items]
    simp [li, ui, oi]
    rw [wp_seqK, wp_blockK]
    refine items_all I hI hok v hv _ _ H.over (Nat.le_refl _) _ (by simp [ui]) (by simp) (by simp) (by simp) ?_
    intro l g H' R s k3 hR hRk hA hS
    obtain ⟨R', r1, r2, r3⟩ := clean_R H.objs.length H.toks.length R hRk
    have hcl : ∃ s', clean H.objs.length H.toks.length 100 s = some s' ∧ Elems 7 s' (R'.map riG) := clean_sl hA.elems r1
    obtain ⟨s', c1, c2⟩ := hcl
    simp [k3, hA.ok, c1]
    exact ⟨R', c2, by rw [r2, hR], fun a b c hm => r3 _ hm⟩
  obtain ⟨⟨s, H'⟩, h1, h2, R, h3, h4, h5⟩ := key
  simp only at h2
  subst h2
  exact ⟨s, R, h1, h3, h4, h5⟩
end Go.Proofs.YthbhfipgdinihaaGreatDoor

namespace Go.Proofs.YthbhfipgdinihaaGreatDoor
open Go.Sh
set_option maxRecDepth 100000

theorem rby_nums (ns : List Int) (hk : ns.length = 16) (l0 : List GV) (g0 : Nat) (H0 : GH) (hbt : H0.bt ≤ H0.toks.length) (K : GExit × St → Prop)
    (h19 : lget l0 19 = .agg (ns.map fun n => GV.int .i64 n)) (h20 : lget l0 20 = .int .i64 0) (h7 : lget l0 7 = .nilsl)
    (he : ∀ l g H s, lget l 7 = s → Made H0 (u8s (ns.flatMap putB)) H s → Fr L0_hedgerowref12_Bytes l0 l → K (.exit 0, ⟨⟨l, g⟩, H⟩)) :
    optW (erun T (.loop L0_hedgerowref12_Bytes) ⟨⟨l0, g0⟩, H0⟩) K := by
  refine range_loop_c (T := T) (n := 16) (A := GV) (fun _ s => [(7, s)]) (fun i s _ H' => Made H0 (u8s ((ns.take i).flatMap putB)) H' s) (c := 21) (b := 0) (I := 20) (d := 26) rfl (by omega) (by decide) rfl (by simp) ?_ ?_ 0 .nilsl _ _ H0 (by omega) (by simpa [u8s] using Made.refl .nil) (by simp [h7]) (.refl _ _ _) h20
  · intro i s l g H' hi hG hh hf hI
    have h19' := hf.get 19 rfl h19 rfl
    simp only [Holds_cons, Holds_nil, and_true] at hh
    have hlt : i < ns.length := by rw [hk]; exact hi
    have hix : gIx 16 (.int .i64 (i : Int)) = some i := by simp only [gIx]; rw [if_pos (by omega)]; simp
    have hg : ns[i]? = some ns[i] := List.getElem?_eq_getElem hlt
    have htake : ns.take (i + 1) = ns.take i ++ [ns[i]] := by rw [List.take_add_one, hg]; rfl
    generalize ns[i] = n at hg htake
    have hlen : ((ns.take i).flatMap putB).length ≤ 16 * 9 := by
      have h1 := flat_le putB 9 (ns.take i) (fun t _ => putB_len t)
      have h2 : (ns.take i).length ≤ 16 := by rw [List.length_take]; omega
      exact Nat.le_trans h1 (Nat.mul_le_mul h2 (Nat.le_refl _))
    obtain ⟨s', H2, c1, g1⟩ := rput n hG.el (hG.btle hbt) (by simp only [List.length_append, u8s_length]; omega)
    simp [h19', hI, hix, hg, hh, hG.ok, c1, g1.ok]
    intro hf'
    rw [htake]
    simpa [u8s_append] using hG.trans g1
  · intro s l g H' hG hh hf
    simp only [Holds_cons, Holds_nil, and_true] at hh
    rw [List.take_of_length_le (by omega)] at hG
    exact he l g H' s hh hG hf

theorem rby_texts (ts : List (List UInt8)) (hts : ∀ t ∈ ts, t.length ≤ 1000) (hn : ts.length ≤ 1000) (tag : Tag) (l0 : List GV) (g0 : Nat) (H0 : GH) (s0 : GV) (xs : List GV) (ha : Elems 1 s0 xs) (hbt : H0.bt ≤ H0.toks.length) (hl : xs.length ≤ 2 ^ 38) (K : GExit × St → Prop)
    (h26 : lget l0 54 = .sl 1 (ts.map strG) tag) (h27 : lget l0 55 = .int .i64 ts.length) (h28 : lget l0 56 = .int .i64 0) (h0 : lget l0 7 = s0)
    (he : ∀ l g H s, lget l 7 = s → Made H0 (xs ++ u8s (txB ts)) H s → Fr L1_hedgerowref12_Bytes l0 l → K (.exit 4, ⟨⟨l, g⟩, H⟩)) :
    optW (erun T (.loop L1_hedgerowref12_Bytes) ⟨⟨l0, g0⟩, H0⟩) K := by
  refine range_loop (T := T) (n := ts.length) (A := GV) (fun _ s => [(7, s)]) (fun i s _ H' => Made H0 (xs ++ u8s (txB (ts.take i))) H' s) (c := 57) (b := 4) (I := 56) (N := 55) (d := 63) rfl (by omega) (by decide) ⟨rfl, rfl⟩ (by simp) ?_ ?_ 0 s0 _ _ H0 (by omega) (by simpa [txB, u8s] using Made.refl ha) (by simp [h0]) (.refl _ _ _) h28 h27
  · intro i s l g H' hi hG hh hf hI
    have h26' := hf.get 54 rfl h26 rfl
    obtain ⟨lt, ix, opt, get, _, wr_, mem⟩ := at_ok (e := strG) (v := .sl 1 (ts.map strG) tag) (.sl _ _) hi (by omega)
    generalize ts[i]'hi = t at opt get mem
    have htake : ts.take (i + 1) = ts.take i ++ [t] := by rw [List.take_add_one, opt]; rfl
    simp only [Holds_cons, Holds_nil, and_true] at hh
    have hlen : (txB (ts.take i)).length ≤ 1000 * 1009 := by
      have h1 := flat_le textB 1009 (ts.take i) (fun t ht => textB_len (hts t (List.mem_of_mem_take ht)))
      have h2 : (ts.take i).length ≤ 1000 := by rw [List.length_take]; omega
      exact Nat.le_trans h1 (Nat.mul_le_mul h2 (Nat.le_refl _))
    obtain ⟨s', H2, c1, g1⟩ := rtext t (hts t mem) hG.el (hG.btle hbt) (by simp only [List.length_append, u8s_length]; omega)
    simp [h26', hI, hh, ix, opt, get, strG, hG.ok, c1, g1.ok]
    intro hf'
    rw [htake]
    simpa [txB, u8s_append] using hG.trans g1
  · intro s l g H' hG hh hf
    simp only [Holds_cons, Holds_nil, and_true] at hh
    rw [List.take_length] at hG
    exact he l g H' s hh hG hf

theorem rby_entries (x : El) (L : List Ent) (hL : L.length ≤ 1000) (hfit : ∀ e ∈ L, EntS e) (dv vv : GV) (hd : Elems 2 dv (L.map dotG)) (hv : Elems 3 vv (L.map valG)) (l0 : List GV) (g0 : Nat) (H0 : GH) (s0 : GV) (xs : List GV) (ha : Elems 1 s0 xs) (hbt : H0.bt ≤ H0.toks.length) (hl : xs.length ≤ 2 ^ 37) (g11 : Nat) (K : GExit × St → Prop)
    (h70 : lget l0 70 = dv) (h71 : lget l0 71 = .int .i64 L.length) (h72 : lget l0 72 = .int .i64 0) (h7 : lget l0 7 = s0) (h11 : lget l0 11 = .lbox g11 (elC x ++ [dv, vv]))
    (he : ∀ l g H s, lget l 7 = s → Made H0 (xs ++ u8s (L.flatMap entBy)) H s → Fr L2_hedgerowref12_Bytes l0 l → K (.exit 6, ⟨⟨l, g⟩, H⟩)) :
    optW (erun T (.loop L2_hedgerowref12_Bytes) ⟨⟨l0, g0⟩, H0⟩) K := by
  refine range_loop (T := T) (n := L.length) (A := GV) (fun _ s => [(7, s), (11, .lbox g11 (elC x ++ [dv, vv]))]) (fun i s _ H' => Made H0 (xs ++ u8s ((L.take i).flatMap entBy)) H' s) (c := 73) (b := 6) (I := 72) (N := 71) (d := 99) rfl (by omega) (by decide) ⟨rfl, rfl⟩ (by simp) ?_ ?_ 0 s0 _ _ H0 (by omega) (by simpa [u8s] using Made.refl ha) (by simp [h7, h11]) (.refl _ _ _) h72 h71
  · intro i s l g H' hi hG hh hf hI
    have h70' := hf.get 70 rfl h70 (by simp [hd.boxy])
    obtain ⟨lt, ix, opt, get, ⟨t, sl⟩, wr_, mem⟩ := at_ok (e := dotG) hd hi (by omega)
    obtain ⟨lt2, ix2, opt2, get2, ⟨t2, sl2⟩, wr2_, mem2⟩ := at_ok (e := valG) hv hi (by omega)
    generalize L[i]'hi = e at opt get mem opt2 get2 mem2
    have hfe := hfit e mem
    have htake : L.take (i + 1) = L.take i ++ [e] := by rw [List.take_add_one, opt]; rfl
    simp only [Holds_cons, Holds_nil, and_true] at hh
    have hlen : ((L.take i).flatMap entBy).length ≤ 1000 * 1045 := by
      have h1 := flat_le entBy 1045 (L.take i) (fun t ht => entBy_len (hfit t (List.mem_of_mem_take ht)))
      have h2 : (L.take i).length ≤ 1000 := by rw [List.length_take]; omega
      exact Nat.le_trans h1 (Nat.mul_le_mul h2 (Nat.le_refl _))
    have b1 := putB_len e.r
    have b2 := putB_len e.c
    have b3 := putB_len e.k
    have b4 := sigB_len e.n
    have hb := hG.btle hbt
    obtain ⟨s1, H1, c1, g1⟩ := rput e.r hG.el hb (by simp only [List.length_append, u8s_length]; omega)
    obtain ⟨s2, H2, c2, g2⟩ := rput e.c g1.el (g1.btle hb) (by simp only [List.length_append, u8s_length]; omega)
    have hb2 := g2.btle (g1.btle hb)
    obtain ⟨s3, H3, c3, g3⟩ := rput e.k g2.el hb2 (by simp only [List.length_append, u8s_length]; omega)
    obtain ⟨s4, H4, c4, g4⟩ := rsigned e.n g3.el (g3.btle hb2) (by simp only [List.length_append, u8s_length]; omega)
    have hb4 := g4.btle (g3.btle hb2)
    obtain ⟨s5, H5, c5, g5⟩ := rtext e.t hfe.t g4.el hb4 (by simp only [List.length_append, u8s_length]; omega)
    obtain ⟨hh1, hh2⟩ := hh
    simp only [elC, List.cons_append, List.nil_append] at hh2
    rw [sl] at h70'
    rw [sl2] at hh2
    simp [h70', hI, hh1, hh2, ix, opt, get, ix2, opt2, get2, setPart, hG.ok, c1, g1.ok, c2, g2.ok, c3, g3.ok, c4, g4.ok, c5, g5.ok]
    intro hf'
    rw [htake]
    refine ⟨s5, ?_, rfl, ?_⟩
    · simpa [entBy, vlB, u8s_append] using ((((hG.trans g1).trans g2).trans g3).trans g4).trans g5
    · simp [elC, sl2]
  · intro s l g H' hG hh hf
    simp only [Holds_cons, Holds_nil, and_true] at hh
    rw [List.take_length] at hG
    exact he l g H' s hh.1 hG hf

theorem itemBy_lens (I : List Itm) (h : ∀ p ∈ I, ElS p.x ∧ p.L.length ≤ 1000 ∧ ∀ e ∈ p.L, EntS e) (hI : I.length ≤ 1000) : (I.flatMap itemBy).length ≤ 1000 * 1100000 := by
  have h1 := flat_le itemBy 1100000 I (fun q hq => by
    obtain ⟨a, b, c⟩ := h q hq
    exact itemBy_len a b c)
  exact Nat.le_trans h1 (Nat.mul_le_mul hI (Nat.le_refl _))

theorem rby_items (R : List RP) (hR : R.length ≤ 1000) (hok : ∀ p ∈ R, ROk p) (hfit : ∀ p ∈ R.map (·.1), ElS p.x ∧ p.L.length ≤ 1000 ∧ ∀ e ∈ p.L, EntS e) (v : GV) (hv : Elems 7 v (R.map riG)) (l0 : List GV) (g0 : Nat) (H0 : GH) (s0 : GV) (xs : List GV) (ha : Elems 1 s0 xs) (hbt : H0.bt ≤ H0.toks.length) (hl : xs.length ≤ 2 ^ 20) (K : GExit × St → Prop)
    (h31 : lget l0 31 = v) (h32 : lget l0 32 = .int .i64 R.length) (h33 : lget l0 33 = .int .i64 0) (h7 : lget l0 7 = s0)
    (he : ∀ l g H s, lget l 7 = s → Made H0 (xs ++ u8s ((R.map (·.1)).flatMap itemBy)) H s → Fr L3_hedgerowref12_Bytes l0 l → K (.exit 2, ⟨⟨l, g⟩, H⟩)) :
    optW (erun T (.loop L3_hedgerowref12_Bytes) ⟨⟨l0, g0⟩, H0⟩) K := by
  refine range_loop (T := T) (n := R.length) (A := GV) (fun _ s => [(7, s)]) (fun i s _ H' => Made H0 (xs ++ u8s (((R.take i).map (·.1)).flatMap itemBy)) H' s) (c := 34) (b := 2) (I := 33) (N := 32) (d := 100) rfl (by omega) (by decide) ⟨rfl, rfl⟩ (by simp) ?_ ?_ 0 s0 _ _ H0 (by omega) (by simpa [u8s] using Made.refl ha) (by simp [h7]) (.refl _ _ _) h33 h32
  · intro i s l g H' hi hG hh hf hI
    have h31' := hf.get 31 rfl h31 (by simp [hv.boxy])
    obtain ⟨lt, ix, opt, get, ⟨t, sl⟩, wr_, mem⟩ := at_ok (e := riG) hv hi (by omega)
    generalize R[i]'hi = p at opt get mem
    obtain ⟨hd, hvv⟩ := hok p mem
    obtain ⟨hx, hL, hf5⟩ := hfit p.1 (List.mem_map.2 ⟨p, mem, rfl⟩)
    have htake : R.take (i + 1) = R.take i ++ [p] := by rw [List.take_add_one, opt]; rfl
    simp only [Holds_cons, Holds_nil, and_true] at hh
    have hlen : (((R.take i).map (·.1)).flatMap itemBy).length ≤ 1000 * 1100000 := by
      refine itemBy_lens _ (fun q hq => hfit q ?_) (by rw [List.length_map, List.length_take]; omega)
      rw [List.map_take] at hq
      exact List.mem_of_mem_take hq
    have b1 := putB_len p.1.x.k
    have b2 := putB_len p.1.L.length
    have hb := hG.btle hbt
    obtain ⟨s1, H1, c1, g1⟩ := rput p.1.x.k hG.el hb (by simp only [List.length_append, u8s_length]; omega)
    have hb1 := g1.btle hb
    have n1 := hd.one
    have n2 := hvv.one
    have o1 := hd.ok
    have o2 := hvv.ok
    have q1 := hd.cells
    have q2 := hvv.cells
    have le := hd.len
    have ue := elemsUnbox hd
    rw [sl] at h31'
    simp [gSetAll, h31', hI, hh, ix, opt, get, elC, setPart, n1, n2, hG.ok, c1, g1.ok]
    rw [wp_blockK, wp_seqK, wp_blockK]
    have htl := elBy_len hx
    simp only [elBy, List.length_append] at htl
    refine rby_texts [p.1.x.a, p.1.x.b, p.1.x.c, p.1.x.d] (by have := hx.a; have := hx.b; have := hx.c; have := hx.d; simp; omega) (by simp) .exact _ _ H1 s1 _ g1.el hb1 (by simp only [List.length_append, u8s_length]; omega) _ (by simp [strG]) (by simp) (by simp) (by simp) ?_
    intro l2 m2 H2 s2 k2 G2 hf2
    have h11 := hf2.get 11 rfl (v := .lbox g (elC p.1.x ++ [p.2.1, p.2.2])) (by simp [elC]) rfl
    have h11' := h11
    simp only [elC, List.cons_append, List.nil_append] at h11
    have hb2 := G2.btle hb1
    obtain ⟨s3, H3, c3, g3⟩ := rput p.1.L.length G2.el hb2 (by simp only [List.length_append, u8s_length]; omega)
    have hb3 := g3.btle hb2
    simp only [List.length_map] at le
    simp [h11, k2, le, ue, o1, G2.ok, c3, g3.ok]
    rw [wp_blockK]
    refine rby_entries p.1.x p.1.L hL hf5 p.2.1 p.2.2 hd hvv _ _ H3 s3 _ g3.el hb3 (by simp only [List.length_append, u8s_length]; omega) g _ (by simp [ue]) (by simp) (by simp) (by simp) (by simp [h11']) ?_
    intro l4 m4 H4 s4 k4 G4 hf4
    simp [k4]
    intro hf'
    rw [← List.map_take, htake]
    have := ((((hG.trans g1).trans G2).trans g3).trans G4)
    simpa [itemBy, elBy, u8s_append] using this
  · intro s l g H' hG hh hf
    simp only [Holds_cons, Holds_nil, and_true] at hh
    rw [List.take_length] at hG
    exact he l g H' s hh hG hf

theorem rby_events (E : List Evt) (hE : E.length ≤ 1000) (hok : ∀ e ∈ E, EvS e) (v : GV) (hv : Elems 27 v (E.map evG)) (l0 : List GV) (g0 : Nat) (H0 : GH) (s0 : GV) (xs : List GV) (ha : Elems 1 s0 xs) (hbt : H0.bt ≤ H0.toks.length) (hl : xs.length ≤ 2 ^ 32) (K : GExit × St → Prop)
    (h48 : lget l0 105 = v) (h49 : lget l0 106 = .int .i64 E.length) (h50 : lget l0 107 = .int .i64 0) (h5 : lget l0 7 = s0)
    (he : ∀ l g H s, lget l 7 = s → Made H0 (xs ++ u8s (E.flatMap evBy)) H s → K (.exit 8, ⟨⟨l, g⟩, H⟩)) :
    optW (erun T (.loop L4_hedgerowref12_Bytes) ⟨⟨l0, g0⟩, H0⟩) K := by
  refine range_loop (T := T) (n := E.length) (A := GV) (fun _ s => [(7, s)]) (fun i s _ H' => Made H0 (xs ++ u8s ((E.take i).flatMap evBy)) H' s) (c := 108) (b := 8) (I := 107) (N := 106) (d := 114) rfl (by omega) (by decide) ⟨rfl, rfl⟩ (by simp) ?_ ?_ 0 s0 _ _ H0 (by omega) (by simpa [u8s] using Made.refl ha) (by simp [h5]) (.refl _ _ _) h50 h49
  · intro i s l g H' hi hG hh hf hIx
    have h48' := hf.get 105 rfl h48 (by simp [hv.boxy])
    obtain ⟨lt, ix, opt, get, ⟨t, sl⟩, wr_, mem⟩ := at_ok (e := evG) hv hi (by omega)
    generalize E[i]'hi = e at opt get mem
    have hfe := hok e mem
    have htake : E.take (i + 1) = E.take i ++ [e] := by rw [List.take_add_one, opt]; rfl
    simp only [Holds_cons, Holds_nil, and_true] at hh
    have hlen : ((E.take i).flatMap evBy).length ≤ 1000 * 6000 := by
      have h1 := flat_le evBy 6000 (E.take i) (fun e he => evBy_len (hok e (List.mem_of_mem_take he)))
      have h2 : (E.take i).length ≤ 1000 := by rw [List.length_take]; omega
      exact Nat.le_trans h1 (Nat.mul_le_mul h2 (Nat.le_refl _))
    obtain ⟨s', H2, c1, g1⟩ := ref_EvPut e hfe hG.el (hG.btle hbt) (by simp only [List.length_append, u8s_length]; omega)
    have l1 := ev_len hfe.past
    have l4 : List.take 27 (evC e) = evC e := List.take_of_length_le (by rw [l1]; exact Nat.le_refl _)
    have lo := ev_one hfe.past
    have sp : setPart [GV.int .i64 0, .int .i64 0, .int .i64 0, .int .i64 0, .int .i64 0, .int .i64 0, .int .i64 0, .int .i64 0, .int .i64 0, .int .i64 0, .int .i64 0, .int .i64 0, .int .i64 0, .int .i64 0, .int .i64 0, .int .i64 0, .int .i64 0, .int .i64 0, .int .i64 0, .int .i64 0, .str ⟨#[]⟩, .str ⟨#[]⟩, .str ⟨#[]⟩, .str ⟨#[]⟩, .int .i64 0, .int .i64 0, .str ⟨#[]⟩] 0 (evC e) = some (evC e) := by
      simp only [setPart, l1]; simp
    rw [sl] at h48'
    simp [h48', hIx, hh, ix, opt, get, sp, l1, l4, lo, hG.ok, c1, g1.ok]
    intro hf'
    rw [htake]
    simpa [u8s_append] using hG.trans g1
  · intro s l g H' hG hh hf
    simp only [Holds_cons, Holds_nil, and_true] at hh
    rw [List.take_length] at hG
    exact he l g H' s hh hG

theorem ref_Bytes (kv : List Int) (hk : kv.length = 16) (R : List RP) (hR : R.length ≤ 1000) (hok : ∀ p ∈ R, ROk p) (hfit : ∀ p ∈ R.map (·.1), ElS p.x ∧ p.L.length ≤ 1000 ∧ ∀ e ∈ p.L, EntS e) (E : List Evt) (hE : E.length ≤ 1000) (hoke : ∀ e ∈ E, EvS e) (vi ve : GV) (hvi : Elems 7 vi (R.map riG)) (hve : Elems 27 ve (E.map evG)) (H : GH) :
    ∃ v, ecall T f_hedgerowref12_Bytes [.agg (kv.map fun n => GV.int .i64 n), vi, ve] H = some (v, H) ∧ Elems 1 v (u8s (snapBy kv (R.map (·.1)) E)) := by
  have hkl : (kv.map fun n => GV.int .i64 n).length = 16 := by simp [hk]
  have st : List.take 16 (kv.map fun n => GV.int .i64 n) = kv.map fun n => GV.int .i64 n := List.take_of_length_le (by rw [hkl]; exact Nat.le_refl _)
  have li := hvi.len
  have ui := elemsUnbox hvi
  have le := hve.len
  have ue := elemsUnbox hve
  have oi := hvi.ok
  have oe := hve.ok
  have hbt : H.over.bt ≤ H.over.toks.length := Nat.le_refl _
  have key : optW (ecall T f_hedgerowref12_Bytes [.agg (kv.map fun n => GV.int .i64 n), vi, ve] H) fun r => r.2 = H ∧ Elems 1 r.1 (u8s (snapBy kv (R.map (·.1)) E)) := by
    rw [ecall_1 T_hedgerowref12_Bytes rfl (by simp [F_hedgerowref12_Bytes]), wp_fin1]
    simp only [F_hedgerowref12_Bytes, b_hedgerowref12_Bytes]
    simp [hk, st]
    rw [wp_seqK, wp_blockK]
    refine rby_nums kv hk _ _ H.over hbt _ (by simp [st]) (by simp) (by simp) ?_
    intro l2 g2 H2 s2 k2 G2 hf2
    have k1 := hf2.get 1 rfl (v := vi) (by simp) (by simp [hvi.boxy])
    have k2e := hf2.get 2 rfl (v := ve) (by simp) (by simp [hve.boxy])
    have hb2 := G2.btle hbt
    have n1 := flat_le putB 9 kv (fun n _ => putB_len n)
    rw [hk] at n1
    have n2 := putB_len R.length
    obtain ⟨s3, H3, c3, g3⟩ := rput R.length G2.el hb2 (by simp only [u8s_length]; omega)
    have hb3 := g3.btle hb2
    simp [k1, k2, li, ui, oi, G2.ok, c3, g3.ok]
    rw [wp_seqK, wp_blockK]
    refine rby_items R hR hok hfit vi hvi _ _ H3 s3 _ g3.el hb3 (by simp only [List.length_append, u8s_length]; omega) _ (by simp [k1, ui]) (by simp) (by simp) (by simp) ?_
    intro l4 g4 H4 s4 k4 G4 hf4
    have k2e' := hf4.get 2 rfl (v := ve) (by simp [k2e]) (by simp [hve.boxy])
    have hb4 := G4.btle hb3
    have n4 := itemBy_lens (R.map (·.1)) hfit (by rw [List.length_map]; omega)
    have n5 := putB_len E.length
    obtain ⟨s5, H5, c5, g5⟩ := rput E.length G4.el hb4 (by simp only [List.length_append, u8s_length]; omega)
    have hb5 := g5.btle hb4
    simp [k2e', k4, le, ue, oe, G4.ok, c5, g5.ok]
    rw [wp_seqK, wp_blockK]
    refine rby_events E hE hoke ve hve _ _ H5 s5 _ g5.el hb5 (by simp only [List.length_append, u8s_length]; omega) _ (by simp [k2e', ue]) (by simp) (by simp) (by simp) ?_
    intro l6 g6 H6 s6 k6 G6
    obtain ⟨s7, hc, hE7⟩ := clean_elems (a := H.objs.length) (b := H.toks.length) (n := 99) G6.el (fun x hx => by
      have hl : u8s (kv.flatMap putB ++ putB R.length ++ (R.map (·.1)).flatMap itemBy ++ putB E.length ++ E.flatMap evBy) = u8s (kv.flatMap putB) ++ u8s (putB R.length) ++ u8s ((R.map (·.1)).flatMap itemBy) ++ u8s (putB E.length) ++ u8s (E.flatMap evBy) := by simp only [u8s_append]
      rw [← hl] at hx
      exact clean_u8s _ _ 98 _ x hx)
    simp [k6, G6.ok, hc]
    simpa [snapBy, u8s_append] using hE7
  obtain ⟨⟨v, H'⟩, h1, h2, h3⟩ := key
  simp only at h2 h3
  subst h2
  exact ⟨v, h1, h3⟩
end Go.Proofs.YthbhfipgdinihaaGreatDoor
