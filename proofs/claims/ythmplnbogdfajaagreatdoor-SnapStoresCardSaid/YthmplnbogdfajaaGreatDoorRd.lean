/- Own work: the shadow machine and what it shows, part Rd. -/
import Derived.Test.YthmplnbogdfajaaGreatDoorRe
set_option linter.all false
namespace Go.Proofs.YthmplnbogdfajaaGreatDoor
open Go.Sh
set_option maxRecDepth 100000
abbrev RS := List Int × Bool
abbrev RdS (H : GH) (id : Nat) (s : RS) : Prop := Rd H id s.1 s.2
def rN (most : Int) (s : RS) : Int × RS := rdNum s.1 s.2 most
def rG (s : RS) : Int × RS := (sgn (rdNum s.1 s.2 2305843009213693952).1, (rdNum s.1 s.2 2305843009213693952).2)
def rT (s : RS) : List UInt8 × RS := ((rdText s.1 s.2 1048576).1.data.toList, (rdText s.1 s.2 1048576).2)
abbrev rM (s : RS) : Int × RS := rN 4611686018427387903 s
theorem rN_spec {H : GH} {id : Nat} {s : RS} (h : RdS H id s) (most : Int) :
    ∃ H', ecall T f_x30 [.ptr id 0, .int .i64 most] H = some (.int .i64 (rN most s).1, H') ∧ RdS H' id (rN most s).2 ∧ Mods (· = id) H H' := num_spec h most
theorem rG_spec {H : GH} {id : Nat} {s : RS} (h : RdS H id s) :
    ∃ H', ecall T f_x31 [.ptr id 0] H = some (.int .i64 (rG s).1, H') ∧ RdS H' id (rG s).2 ∧ Mods (· = id) H H' := rsigned_spec h
theorem rT_spec {H : GH} {id : Nat} {s : RS} (h : RdS H id s) :
    ∃ H', ecall T f_x32 [.ptr id 0, .int .i64 1048576] H = some (.str (mkB (rT s).1), H') ∧ RdS H' id (rT s).2 ∧ Mods (· = id) H H' := by
  obtain ⟨H', h1, h2, h3⟩ := rtext_spec h 1048576
  refine ⟨H', ?_, h2, h3⟩
  rw [h1]
  have : mkB (rT s).1 = (rdText s.1 s.2 1048576).1 := by simp [rT, mkB]
  rw [this]
theorem rN_ok {s : RS} (hB : isB s.1) (most : Int) : 0 ≤ (rN most s).1 ∧ (rN most s).1 ≤ 4611686018427387903 := rdNum_ok hB most
theorem rN_most {s : RS} (most : Int) (hm : 0 ≤ most) : (rN most s).1 ≤ most := by
  unfold rN rdNum
  split
  · exact hm
  · split
    · exact hm
    · simp only; omega
theorem rG_ok {s : RS} (hB : isB s.1) : -9223372036854775808 ≤ (rG s).1 ∧ (rG s).1 ≤ 9223372036854775807 := by
  have := rdNum_ok (bad := s.2) hB 2305843009213693952
  unfold rG sgn
  simp only
  split <;> omega
theorem rT_len (s : RS) : (rT s).1.length ≤ 1048576 := by
  have h := rN_most (s := s) 1048576 (by omega)
  unfold rN at h
  unfold rT rdText
  split
  · simp
  · rename_i hn
    simp only [txt, List.length_map, List.length_take]
    omega
def rdE (s : RS) : Ent × RS :=
  let a := rM s
  let b := rM a.2
  let k := rM b.2
  let n := rG k.2
  let t := rT n.2
  (⟨a.1, b.1, k.1, n.1, t.1⟩, t.2)
theorem readEntry {H : GH} {id : Nat} {s : RS} (h : RdS H id s) :
    ∃ H', ecall T f_x57 [.ptr id 0] H = some (entG (rdE s).1, H') ∧ RdS H' id (rdE s).2 ∧ Mods (· = id) H H' ∧ EntFit (rdE s).1 := by
  obtain ⟨H1, c1, h1, m1⟩ := rN_spec h 4611686018427387903
  obtain ⟨H2, c2, h2, m2⟩ := rN_spec h1 4611686018427387903
  obtain ⟨H3, c3, h3, m3⟩ := rN_spec h2 4611686018427387903
  obtain ⟨H4, c4, h4, m4⟩ := rG_spec h3
  obtain ⟨H5, c5, h5, m5⟩ := rT_spec h4
  have b4 := rG_ok h3.isb
  refine ⟨H5, ?_, h5, (((m1.trans m2).trans m3).trans m4).trans m5, ⟨b4.1, b4.2⟩⟩
  apply optW.eq
  rw [ecall_0 T_x57 rfl (by simp [F_x57]), wp_fin1]
  simp [F_x57, b_x57, c1, c2, c3, c4, c5, setPart, entC, rdE, rM]
def rowsP {α : Type} (f : RS → α × RS) : Nat → RS → List α → List α × RS
  | 0, s, acc => (acc, s)
  | n + 1, s, acc => if (f s).2.2 = true then ([], (f s).2) else rowsP f n (f s).2 (acc ++ [(f s).1])
def rdRows {α : Type} (f : RS → α × RS) (s : RS) : List α × RS := rowsP f (rN 100000 s).1.toNat (rN 100000 s).2 []
theorem Mods.fresh {ids : Nat → Prop} {H0 H H' : GH} {own : Option Nat} (h : Mods ids H0 H) (h' : TokStep own H H') (hn : ∀ t, own = some t → H0.toks.length ≤ t) : Mods ids H0 H' :=
  ⟨h'.bo.trans h.bo, h'.bt.trans h.bt, by rw [h'.objs]; exact h.olen, fun j hj hi => by rw [h'.objs]; exact h.obj j hj hi, Nat.le_trans h.tlen h'.len, fun t p hp => h'.tok t p (fun e => by
    have := hn t e
    have := (List.getElem?_eq_some_iff.1 hp).1
    omega) (h.tok t p hp)⟩
theorem App.keepM {H H1 : GH} {ids : Nat → Prop} {sz : Nat} {s : GV} {xs : List GV} (h : App H sz s xs) (hm : Mods ids H H1) : App H1 sz s xs := by
  cases h with
  | nil => exact .nil
  | exact => exact .exact _
  | tok _ h hb => exact .tok _ (hm.tok _ _ h) (by rw [hm.bt]; exact hb)
theorem Rd.step {H H' : GH} {id : Nat} {B : List Int} {bad : Bool} {own : Option Nat} (h : Rd H id B bad) (ht : TokStep own H H') : Rd H' id B bad := by
  obtain ⟨⟨v, h1, h2⟩, h3, h4, h5⟩ := h
  exact ⟨⟨v, by rw [ht.objs]; exact h1, h2⟩, by rw [ht.bo]; exact h3, h4, h5⟩
theorem rowsE_loop {H0 : GH} {id : Nat} {s0 : RS} (n : Nat) (hn : n ≤ 100000) (hR : RdS H0 id s0) (hbt : H0.bt ≤ H0.toks.length) (l0 : List GV) (g0 : Nat) (K : GExit × St → Prop)
    (h0 : lget l0 0 = .ptr id 0) (h1 : lget l0 1 = .func 92 [] []) (h7 : lget l0 7 = .int .i64 n) (h8 : lget l0 8 = .int .i64 0) (h5 : lget l0 5 = .nilsl)
    (he : ∀ l g H v, lget l 5 = v → Elems 5 v ((rowsP rdE n s0 []).1.map entG) → (∀ e ∈ (rowsP rdE n s0 []).1, EntFit e) → (rowsP rdE n s0 []).1.length ≤ n → RdS H id (rowsP rdE n s0 []).2 → Mods (· = id) H0 H → K (.exit 0, ⟨⟨l, g⟩, H⟩))
    (hr : ∀ l g H, lget l 4 = .nilsl → (rowsP rdE n s0 []).1 = [] → RdS H id (rowsP rdE n s0 []).2 → Mods (· = id) H0 H → K (.ret, ⟨⟨l, g⟩, H⟩)) :
    optW (erun T (.loop L0_x60) ⟨⟨l0, g0⟩, H0⟩) K := by
  refine range_loop (T := T) (n := n) (A := GV × RS × List Ent) (fun _ a => [(5, a.1)]) (fun i a _ H' => RdS H' id a.2.1 ∧ App H' 5 a.1 (a.2.2.map entG) ∧ (∀ e ∈ a.2.2, EntFit e) ∧ a.2.2.length = i ∧ rowsP rdE n s0 [] = rowsP rdE (n - i) a.2.1 a.2.2 ∧ Mods (· = id) H0 H' ∧ ∀ t, tokOf a.1 = some t → H0.toks.length ≤ t) (c := 9) (b := 0) (I := 8) (N := 7) (d := 18) rfl (by omega) (by decide) ⟨rfl, rfl⟩ (by simp) ?_ ?_ 0 (.nilsl, s0, []) _ _ H0 (by omega) ⟨hR, .nil, by simp, rfl, rfl, .refl _ _, by simp [tokOf]⟩ (by simp [h5]) (.refl _ _ _) h8 h7
  · intro i a l g H' hi hP hh hf hI
    obtain ⟨v, s, acc⟩ := a
    obtain ⟨hRd, hA, hfit, hlen, hrow, hM, hF⟩ := hP
    simp only at hRd hA hfit hlen hrow hF hh
    have k0 := hf.get 0 rfl h0 rfl
    have k1 := hf.get 1 rfl h1 rfl
    simp only [Holds_cons, Holds_nil, and_true] at hh
    obtain ⟨H1, c1, r1, m1, f1⟩ := readEntry hRd
    have hA1 := App.keepM hA m1
    have hb1 : H1.bt ≤ H1.toks.length := m1.btle (hM.btle hbt)
    obtain ⟨v', H2, c2, a2, t2, i2⟩ := append_ok (ty := 56) (bytes := 48) (ys := [entG (rdE s).1]) (x := .sl 5 [entG (rdE s).1] .exact) hA1 (by simp [gNews]) hb1 (by simp only [List.length_singleton, List.length_map, room]; omega) (by simp only [List.length_singleton, List.length_map, maxLen]; omega)
    have r2 := Rd.step r1 t2
    have hfail := fail_spec r2
    simp only [entG, entC] at c1 c2
    have hF2 : ∀ t, tokOf v' = some t → H0.toks.length ≤ t := fun t ht => by
      rcases i2 with e | e
      · exact hF t (e ▸ ht)
      · exact Nat.le_trans (Nat.le_trans hM.tlen m1.tlen) (e t ht)
    have hstep : n - i = (n - (i + 1)) + 1 := by omega
    have hM2 := Mods.fresh (hM.trans m1) t2 hF
    rw [hstep, rowsP] at hrow
    cases hbad : (rdE s).2.2 with
    | true =>
      rw [hbad] at hfail
      rw [if_pos hbad] at hrow
      simp [k0, k1, hh, hA.ok, c1, gSetAll, c2, a2.ok, hfail]
      exact fun _ => hr _ _ _ (by simp) (by rw [hrow]) (by rw [hrow]; exact r2) hM2
    | false =>
      rw [hbad] at hfail
      rw [if_neg (by rw [hbad]; simp)] at hrow
      simp [k0, k1, hh, hA.ok, c1, gSetAll, c2, a2.ok, hfail]
      refine fun _ => ⟨(rdE s).2.1, .inl ⟨hbad ▸ r2, acc ++ [(rdE s).1], by simpa [entC] using a2, ?_, by simp [hlen], by rw [hrow, ← hbad], hM2, hF2⟩⟩
      intro e hm
      rcases List.mem_append.1 hm with hm | hm
      · exact hfit e hm
      · rw [List.mem_singleton] at hm; subst hm; exact f1
  · intro a l g H' hP hh hf
    obtain ⟨v, s, acc⟩ := a
    obtain ⟨hRd, hA, hfit, hlen, hrow, hM, hF⟩ := hP
    simp only at hRd hA hfit hlen hrow hF hh
    simp only [Holds_cons, Holds_nil, and_true] at hh
    rw [Nat.sub_self, rowsP] at hrow
    refine he l g H' v hh ?_ ?_ ?_ ?_ hM <;> rw [hrow]
    · exact hA.elems
    · exact hfit
    · simp only; omega
    · exact hRd
theorem rowsE {H : GH} {id : Nat} {s : RS} (h : RdS H id s) (hbt : H.bt ≤ H.toks.length) :
    ∃ v H', ecall T f_x60 [.ptr id 0, .func 92 [] []] H = some (v, H') ∧ Elems 5 v ((rdRows rdE s).1.map entG) ∧ (∀ e ∈ (rdRows rdE s).1, EntFit e) ∧ (rdRows rdE s).1.length ≤ 100000 ∧ RdS H' id (rdRows rdE s).2 ∧ Mods (· = id) H H' := by
  obtain ⟨H1, c1, h1, m1⟩ := rN_spec h 100000
  have b0 := (rN_ok h.isb 100000).1
  have b1 := rN_most (s := s) 100000 (by omega)
  have hb1 := m1.btle hbt
  have hn : (rN 100000 s).1 = (((rN 100000 s).1.toNat : Nat) : Int) := by omega
  have key : optW (ecall T f_x60 [.ptr id 0, .func 92 [] []] H) fun r => Elems 5 r.1 ((rdRows rdE s).1.map entG) ∧ (∀ e ∈ (rdRows rdE s).1, EntFit e) ∧ (rdRows rdE s).1.length ≤ 100000 ∧ RdS r.2 id (rdRows rdE s).2 ∧ Mods (· = id) H r.2 := by
    rw [ecall_0 T_x60 rfl (by simp [F_x60]), wp_fin1]
    simp only [F_x60, b_x60]
    simp [c1]
    rw [wp_seqK, wp_blockK]
    refine rowsE_loop (rN 100000 s).1.toNat (by omega) h1 hb1 _ _ _ (by simp) (by simp) (by simp; omega) (by simp) (by simp) ?_ ?_
    · intro l g H2 v k5 hE hf hl hR hM
      simp [k5, hE.ok]
      exact ⟨hE, hf, Nat.le_trans hl (by omega), hR, m1.trans hM⟩
    · intro l g H2 k4 hE hR hM
      have hz : (rdRows rdE s).1 = [] := hE
      simp [k4, hz]
      exact ⟨.nil, hR, m1.trans hM⟩
  obtain ⟨⟨v, H'⟩, e1, e2, e3, e4, e5, e6⟩ := key
  exact ⟨v, H', e1, e2, e3, e4, e5, e6⟩
end Go.Proofs.YthmplnbogdfajaaGreatDoor
namespace Go.Proofs.YthmplnbogdfajaaGreatDoor
open Go.Sh
set_option maxRecDepth 100000
def rdI (s : RS) : Itm × RS :=
  let k := rM s
  let a := rT k.2
  let b := rT a.2
  let c := rT b.2
  let d := rT c.2
  let L := rdRows rdE d.2
  (⟨⟨k.1, a.1, b.1, c.1, d.1⟩, L.1⟩, L.2)
def txs (o : Nat) (s : RS) (cs : List GV) : Nat → RS × List GV
  | 0 => (s, cs)
  | i + 1 => ((rT (txs o s cs i).1).2, (txs o s cs i).2.take (o + i) ++ [.str (mkB (rT (txs o s cs i).1).1)] ++ (txs o s cs i).2.drop (o + i + 1))
theorem txs_len {o : Nat} {s : RS} {cs : List GV} (n : Nat) (h : o + n ≤ cs.length) : ∀ i, i ≤ n → (txs o s cs i).2.length = cs.length
  | 0, _ => rfl
  | i + 1, hi => by
    have := txs_len (s := s) n h i (by omega)
    simp only [txs, List.length_append, List.length_take, List.length_drop, List.length_singleton]
    omega
theorem item_texts_loop {H0 : GH} {id io : Nat} {s0 : RS} (hne : io ≠ id) (cs : List GV) (hcs : cs.length = 6) (hR : RdS H0 id s0) (ho : H0.objs[io]? = some (.cells 51 cs)) (hbo : H0.bo ≤ io) (tag : Tag) (l0 : List GV) (g0 : Nat) (K : GExit × St → Prop)
    (h0 : lget l0 0 = .ptr id 0) (h17 : lget l0 17 = .sl 1 [.ptr io 1, .ptr io 2, .ptr io 3, .ptr io 4] tag) (h18 : lget l0 18 = .int .i64 4) (h19 : lget l0 19 = .int .i64 0)
    (he : ∀ l g H, RdS H id (txs 1 s0 cs 4).1 → H.objs[io]? = some (.cells 51 (txs 1 s0 cs 4).2) → Mods (fun j => j = id ∨ j = io) H0 H → Fr L0_x58 l0 l → K (.exit 0, ⟨⟨l, g⟩, H⟩)) :
    optW (erun T (.loop L0_x58) ⟨⟨l0, g0⟩, H0⟩) K := by
  refine range_loop (T := T) (n := 4) (A := Unit) (fun _ _ => []) (fun i _ _ H' => RdS H' id (txs 1 s0 cs i).1 ∧ H'.objs[io]? = some (.cells 51 (txs 1 s0 cs i).2) ∧ Mods (fun j => j = id ∨ j = io) H0 H') (c := 20) (b := 0) (I := 19) (N := 18) (d := 27) rfl (by omega) (by decide) ⟨rfl, rfl⟩ (by simp) ?_ ?_ 0 () _ _ H0 (by omega) ⟨hR, ho, .refl _ _⟩ (by simp) (.refl _ _ _) h19 (by simpa using h18)
  · intro i _ l g H hi hP hh hf hI
    obtain ⟨hRd, hob, hM⟩ := hP
    have k0 := hf.get 0 rfl h0 rfl
    have k17 := hf.get 17 rfl h17 rfl
    have hlen := txs_len (s := s0) (cs := cs) (o := 1) 4 (by omega) i (by omega)
    obtain ⟨H1, c1, r1, m1⟩ := rT_spec hRd
    have hob1 : H1.objs[io]? = some (.cells 51 (txs 1 s0 cs i).2) := by rw [m1.obj io (List.getElem?_eq_some_iff.1 hob).1 hne]; exact hob
    have hbo1 : H1.bo ≤ io := by rw [m1.bo, hM.bo]; exact hbo
    have hat := at_ok (e := fun k => GV.ptr io k) (all := [1, 2, 3, 4]) (v := .sl 1 [.ptr io 1, .ptr io 2, .ptr io 3, .ptr io 4] tag) (.sl _ _) (i := i) hi (by simp)
    obtain ⟨lt, ix, opt, get, _, wr_, mem⟩ := hat
    have hp : [1, 2, 3, 4][i]'hi = 1 + i := by
      rcases i with _ | _ | _ | _ | i
      all_goals first | rfl | omega
    rw [hp] at opt get
    have hgp : [GV.ptr io 1, .ptr io 2, .ptr io 3, .ptr io 4][i]? = some (.ptr io (1 + i)) := by
      have : [GV.ptr io 1, .ptr io 2, .ptr io 3, .ptr io 4] = [1, 2, 3, 4].map (fun k => GV.ptr io k) := rfl
      rw [this, List.getElem?_map, opt]; rfl
    have hgp' := get_of hgp
    have hsp : setPart (txs 1 s0 cs i).2 (1 + i) [.str (mkB (rT (txs 1 s0 cs i).1).1)] = some (txs 1 s0 cs (i + 1)).2 := by
      simp only [setPart, hlen, hcs]
      rw [if_pos (by simp; omega)]
      simp [txs]
    have hix : gIx 4 (.int .i64 (i : Int)) = some i := by simp only [gIx]; rw [if_pos (by omega)]; simp
    simp [k0, k17, hI, hix, hi, hgp, hgp', c1, hob1, hbo1, hsp]
    have ms := Mods.set H1 io (.cells 51 (txs 1 s0 cs (i + 1)).2)
    exact fun _ => ⟨Rd.mods r1 ms (fun e => hne e.symm), obj_set hob1, (hM.trans (m1.weak fun j hj => .inl hj)).trans (ms.weak fun j hj => .inr hj)⟩
  · intro a l g H' hP hh hf
    obtain ⟨hRd, hob, hM⟩ := hP
    exact he l g H' hRd hob hM hf
theorem Mods.drop {H H' : GH} {id io : Nat} (h : Mods (fun j => j = id ∨ j = io) H H') (hio : H.objs.length ≤ io) : Mods (· = id) H H' :=
  ⟨h.bo, h.bt, h.olen, fun j hj hn => h.obj j hj (fun e => by rcases e with e | e; exact hn e; omega), h.tlen, h.tok⟩
theorem readItem {H : GH} {id : Nat} {s : RS} (h : RdS H id s) (hbt : H.bt ≤ H.toks.length) (hbo : H.bo ≤ H.objs.length) :
    ∃ v H', ecall T f_x58 [.ptr id 0] H = some (ipG ((rdI s).1, v), H') ∧ IOk ((rdI s).1, v) ∧ RdS H' id (rdI s).2 ∧ Mods (· = id) H H' := by
  have hlt := h.lt
  have key : optW (ecall T f_x58 [.ptr id 0] H) fun r => ∃ v, r.1 = ipG ((rdI s).1, v) ∧ IOk ((rdI s).1, v) ∧ RdS r.2 id (rdI s).2 ∧ Mods (· = id) H r.2 := by
    rw [ecall_0 T_x58 rfl (by simp [F_x58]), wp_fin1]
    simp only [F_x58, b_x58]
    have m0 := Mods.new (· = id) H (.cells 51 [.int .i64 0, .str ⟨#[]⟩, .str ⟨#[]⟩, .str ⟨#[]⟩, .str ⟨#[]⟩, .nilsl])
    have h0 : RdS (H.newObj (.cells 51 [.int .i64 0, .str ⟨#[]⟩, .str ⟨#[]⟩, .str ⟨#[]⟩, .str ⟨#[]⟩, .nilsl])) id s := Rd.mods h (Mods.new (fun _ => False) H _) (by simp)
    obtain ⟨H1, c1, r1, m1⟩ := rN_spec h0 4611686018427387903
    have hne : H.objs.length ≠ id := by omega
    have hob : H1.objs[H.objs.length]? = some (.cells 51 [.int .i64 0, .str ⟨#[]⟩, .str ⟨#[]⟩, .str ⟨#[]⟩, .str ⟨#[]⟩, .nilsl]) := by
      rw [m1.obj _ (by simp [GH.newObj]) hne]; simp [GH.newObj]
    have hbo1 : H1.bo ≤ H.objs.length := by rw [m1.bo]; exact hbo
    simp [GH.newObj] at c1
    simp [GH.newObj, c1, hob, hbo1, setPart, gSetAll]
    rw [wp_seqK, wp_blockK]
    have ms := Mods.set H1 H.objs.length (.cells 51 [.int .i64 (rM s).1, .str ⟨#[]⟩, .str ⟨#[]⟩, .str ⟨#[]⟩, .str ⟨#[]⟩, .nilsl])
    have r1' : RdS { H1 with objs := H1.objs.set H.objs.length (.cells 51 [.int .i64 (rM s).1, .str ⟨#[]⟩, .str ⟨#[]⟩, .str ⟨#[]⟩, .str ⟨#[]⟩, .nilsl]) } id (rM s).2 := Rd.mods r1 ms (fun e => hne e.symm)
    refine item_texts_loop (io := H.objs.length) hne [.int .i64 (rM s).1, .str ⟨#[]⟩, .str ⟨#[]⟩, .str ⟨#[]⟩, .str ⟨#[]⟩, .nilsl] rfl r1' (obj_set hob) hbo1 .exact _ _ _ (by simp) (by simp) (by simp) (by simp) ?_
    intro l2 g2 H2 r2 o2 m2 hf2
    have k0 := hf2.get 0 rfl (v := .ptr id 0) (by simp) rfl
    have k2 := hf2.get 2 rfl (v := .ptr H.objs.length 0) (by simp) rfl
    have m02 : Mods (fun j => j = id ∨ j = H.objs.length) H H2 := (((m0.trans m1).weak fun j hj => .inl hj).trans (ms.weak fun j hj => .inr hj)).trans m2
    have hbt2 := m02.btle hbt
    obtain ⟨v, H3, c3, e3, f3, l3, r3, m3⟩ := rowsE r2 hbt2
    have m03 := m02.trans (m3.weak fun j hj => .inl hj)
    have o3 : H3.objs[H.objs.length]? = some (.cells 51 (txs 1 (rM s).2 [.int .i64 (rM s).1, .str ⟨#[]⟩, .str ⟨#[]⟩, .str ⟨#[]⟩, .str ⟨#[]⟩, .nilsl] 4).2) := by
      rw [m3.obj _ (List.getElem?_eq_some_iff.1 o2).1 hne]; exact o2
    have hbo3 : H3.bo ≤ H.objs.length := by rw [m03.bo]; exact hbo
    simp only [txs, Nat.reduceAdd, List.take_succ_cons, List.take_zero, List.drop_succ_cons, List.drop_zero, List.cons_append, List.nil_append] at o3 c3 r3 e3 f3 l3
    have hv1 := e3.one
    have hv2 := e3.cells
    simp [k0, k2, c3, o3, hbo3, setPart, e3.ok, hv1, hv2, obj_set o3]
    have bk := rN_ok h.isb 4611686018427387903
    refine ⟨v, rfl, ⟨⟨rT_len _, rT_len _, rT_len _, rT_len _⟩, ⟨?_, ?_⟩, l3, f3, e3⟩, Rd.mods r3 (Mods.set H3 H.objs.length _) (fun e => hne e.symm), ?_⟩
    · show _ ≤ (rM s).1; unfold rM; omega
    · show (rM s).1 ≤ _; unfold rM; omega
    · exact Mods.drop (m03.trans ((Mods.set H3 H.objs.length _).weak fun j hj => .inr hj)) (Nat.le_refl _)
  obtain ⟨⟨r, H'⟩, e1, v, e2, e3, e4, e5⟩ := key
  simp only at e2
  subst e2
  exact ⟨v, H', e1, e3, e4, e5⟩
end Go.Proofs.YthmplnbogdfajaaGreatDoor
namespace Go.Proofs.YthmplnbogdfajaaGreatDoor
open Go.Sh
set_option maxRecDepth 100000
theorem rowsI_loop {H0 : GH} {id : Nat} {s0 : RS} (n : Nat) (hn : n ≤ 100000) (hR : RdS H0 id s0) (hbt : H0.bt ≤ H0.toks.length) (hbo : H0.bo ≤ H0.objs.length) (l0 : List GV) (g0 : Nat) (K : GExit × St → Prop)
    (h0 : lget l0 0 = .ptr id 0) (h1 : lget l0 1 = .func 57 [] []) (h7 : lget l0 7 = .int .i64 n) (h8 : lget l0 8 = .int .i64 0) (h5 : lget l0 5 = .nilsl)
    (he : ∀ l g H v (I : List IP), lget l 5 = v → Elems 6 v (I.map ipG) → I.map (·.1) = (rowsP rdI n s0 []).1 → (∀ p ∈ I, IOk p) → I.length ≤ n → RdS H id (rowsP rdI n s0 []).2 → Mods (· = id) H0 H → K (.exit 0, ⟨⟨l, g⟩, H⟩))
    (hr : ∀ l g H, lget l 4 = .nilsl → (rowsP rdI n s0 []).1 = [] → RdS H id (rowsP rdI n s0 []).2 → Mods (· = id) H0 H → K (.ret, ⟨⟨l, g⟩, H⟩)) :
    optW (erun T (.loop L0_x61) ⟨⟨l0, g0⟩, H0⟩) K := by
  refine range_loop (T := T) (n := n) (A := GV × RS × List IP) (fun _ a => [(5, a.1)]) (fun i a _ H' => RdS H' id a.2.1 ∧ App H' 6 a.1 (a.2.2.map ipG) ∧ (∀ e ∈ a.2.2, IOk e) ∧ a.2.2.length = i ∧ rowsP rdI n s0 [] = rowsP rdI (n - i) a.2.1 (a.2.2.map (·.1)) ∧ Mods (· = id) H0 H' ∧ ∀ t, tokOf a.1 = some t → H0.toks.length ≤ t) (c := 9) (b := 0) (I := 8) (N := 7) (d := 18) rfl (by omega) (by decide) ⟨rfl, rfl⟩ (by simp) ?_ ?_ 0 (.nilsl, s0, []) _ _ H0 (by omega) ⟨hR, .nil, by simp, rfl, rfl, .refl _ _, by simp [tokOf]⟩ (by simp [h5]) (.refl _ _ _) h8 h7
  · intro i a l g H' hi hP hh hf hI
    obtain ⟨v, s, acc⟩ := a
    obtain ⟨hRd, hA, hfit, hlen, hrow, hM, hF⟩ := hP
    simp only at hRd hA hfit hlen hrow hF hh
    have k0 := hf.get 0 rfl h0 rfl
    have k1 := hf.get 1 rfl h1 rfl
    simp only [Holds_cons, Holds_nil, and_true] at hh
    obtain ⟨w, H1, c1, f1, r1, m1⟩ := readItem hRd (hM.btle hbt) (by rw [hM.bo]; exact Nat.le_trans hbo hM.olen)
    have hA1 := App.keepM hA m1
    have hb1 : H1.bt ≤ H1.toks.length := m1.btle (hM.btle hbt)
    obtain ⟨v', H2, c2, a2, t2, i2⟩ := append_ok (ty := 51) (bytes := 96) (ys := [ipG ((rdI s).1, w)]) (x := .sl 6 [ipG ((rdI s).1, w)] .exact) hA1 (by simp [gNews]) hb1 (by simp only [List.length_singleton, List.length_map, room]; omega) (by simp only [List.length_singleton, List.length_map, maxLen]; omega)
    have r2 := Rd.step r1 t2
    have hfail := fail_spec r2
    have hwone := f1.el.one
    simp only [ipG, itemC, elC, List.cons_append, List.nil_append] at c1 c2
    have hF2 : ∀ t, tokOf v' = some t → H0.toks.length ≤ t := fun t ht => by
      rcases i2 with e | e
      · exact hF t (e ▸ ht)
      · exact Nat.le_trans (Nat.le_trans hM.tlen m1.tlen) (e t ht)
    have hstep : n - i = (n - (i + 1)) + 1 := by omega
    have hM2 := Mods.fresh (hM.trans m1) t2 hF
    rw [hstep, rowsP] at hrow
    cases hbad : (rdI s).2.2 with
    | true =>
      rw [hbad] at hfail
      rw [if_pos hbad] at hrow
      simp [k0, k1, hh, hA.ok, c1, gSetAll, hwone, c2, a2.ok, hfail]
      exact fun _ => hr _ _ _ (by simp) (by rw [hrow]) (by rw [hrow]; exact r2) hM2
    | false =>
      rw [hbad] at hfail
      rw [if_neg (by rw [hbad]; simp)] at hrow
      simp [k0, k1, hh, hA.ok, c1, gSetAll, hwone, c2, a2.ok, hfail]
      refine fun _ => ⟨(rdI s).2.1, .inl ⟨hbad ▸ r2, acc ++ [((rdI s).1, w)], by simpa [itemC, elC] using a2, ?_, by simp [hlen], by rw [hrow, ← hbad]; simp, hM2, hF2⟩⟩
      intro a b hm
      rcases List.mem_append.1 hm with hm | hm
      · exact hfit _ hm
      · rw [List.mem_singleton] at hm; rw [hm]; exact f1
  · intro a l g H' hP hh hf
    obtain ⟨v, s, acc⟩ := a
    obtain ⟨hRd, hA, hfit, hlen, hrow, hM, hF⟩ := hP
    simp only at hRd hA hfit hlen hrow hF hh
    simp only [Holds_cons, Holds_nil, and_true] at hh
    rw [Nat.sub_self, rowsP] at hrow
    exact he l g H' v acc hh hA.elems (by rw [hrow]) hfit (by omega) (by rw [hrow]; exact hRd) hM
theorem rowsI {H : GH} {id : Nat} {s : RS} (h : RdS H id s) (hbt : H.bt ≤ H.toks.length) (hbo : H.bo ≤ H.objs.length) :
    ∃ (v : GV) (H' : GH) (I : List IP), ecall T f_x61 [.ptr id 0, .func 57 [] []] H = some (v, H') ∧ Elems 6 v (I.map ipG) ∧ I.map (·.1) = (rdRows rdI s).1 ∧ (∀ p ∈ I, IOk p) ∧ I.length ≤ 100000 ∧ RdS H' id (rdRows rdI s).2 ∧ Mods (· = id) H H' := by
  obtain ⟨H1, c1, h1, m1⟩ := rN_spec h 100000
  have b0 := (rN_ok h.isb 100000).1
  have b1 := rN_most (s := s) 100000 (by omega)
  have hb1 := m1.btle hbt
  have key : optW (ecall T f_x61 [.ptr id 0, .func 57 [] []] H) fun r => ∃ I : List IP, Elems 6 r.1 (I.map ipG) ∧ I.map (·.1) = (rdRows rdI s).1 ∧ (∀ p ∈ I, IOk p) ∧ I.length ≤ 100000 ∧ RdS r.2 id (rdRows rdI s).2 ∧ Mods (· = id) H r.2 := by
    rw [ecall_0 T_x61 rfl (by simp [F_x61]), wp_fin1]
    simp only [F_x61, b_x61]
    simp [c1]
    rw [wp_seqK, wp_blockK]
    refine rowsI_loop (rN 100000 s).1.toNat (by omega) h1 hb1 (by rw [m1.bo]; exact Nat.le_trans hbo m1.olen) _ _ _ (by simp) (by simp) (by simp; omega) (by simp) (by simp) ?_ ?_
    · intro l g H2 v I k5 hE hm hf hl hR hM
      simp [k5, hE.ok]
      exact ⟨I, hE, hm, fun a b hh => hf _ hh, Nat.le_trans hl (by omega), hR, m1.trans hM⟩
    · intro l g H2 k4 hE hR hM
      have hz : (rdRows rdI s).1 = [] := hE
      simp [k4, hz]
      exact ⟨[], .nil, rfl, by simp, by simp, hR, m1.trans hM⟩
  obtain ⟨⟨v, H'⟩, e1, I, e2, e3, e4, e5, e6, e7⟩ := key
  exact ⟨v, H', I, e1, e2, e3, e4, e5, e6, e7⟩
end Go.Proofs.YthmplnbogdfajaaGreatDoor
namespace Go.Proofs.YthmplnbogdfajaaGreatDoor
open Go.Sh
set_option maxRecDepth 100000
def rNs : Nat → RS → List Int × RS
  | 0, s => ([], s)
  | i + 1, s => ((rNs i s).1 ++ [(rM (rNs i s).2).1], (rM (rNs i s).2).2)
def rTs : Nat → RS → List (List UInt8) × RS
  | 0, s => ([], s)
  | i + 1, s => ((rTs i s).1 ++ [(rT (rTs i s).2).1], (rT (rTs i s).2).2)
theorem rNs_len : ∀ i s, (rNs i s).1.length = i
  | 0, _ => rfl
  | i + 1, s => by simp [rNs, rNs_len i s]
theorem rTs_len : ∀ i s, (rTs i s).1.length = i
  | 0, _ => rfl
  | i + 1, s => by simp [rTs, rTs_len i s]
def fillC (cs vals : List GV) (o i : Nat) : List GV := cs.take o ++ vals ++ cs.drop (o + i)
theorem fill_set {cs vals : List GV} {o i : Nat} (hl : vals.length = i) (h : o + i < cs.length) (v : GV) :
    setPart (fillC cs vals o i) (o + i) [v] = some (fillC cs (vals ++ [v]) o (i + 1)) := by
  subst hl
  unfold fillC
  have h1 : (cs.take o ++ vals).length = o + vals.length := by rw [List.length_append, List.length_take]; omega
  unfold setPart
  rw [if_pos (by simp only [List.length_append, List.length_take, List.length_drop, List.length_singleton]; omega)]
  congr 1
  rw [List.take_left' h1, List.length_singleton, List.drop_append, List.drop_of_length_le (by omega), h1, List.drop_drop]
  simp only [List.nil_append, List.append_assoc]
  congr 4
  omega
abbrev nG (n : Int) : GV := .int .i64 n
theorem next_two0 {H0 : GH} {id io o : Nat} {s0 : RS} (hne : io ≠ id) (cs : List GV) (hcs : o + 2 ≤ cs.length) (hR : RdS H0 id s0) (ho : H0.objs[io]? = some (.cells 38 cs)) (hbo : H0.bo ≤ io) (tag : Tag) (l0 : List GV) (g0 : Nat) (K : GExit × St → Prop)
    (h0 : lget l0 0 = .ptr id 0) (h14 : lget l0 14 = .sl 1 [.ptr io o, .ptr io (o + 1)] tag) (h15 : lget l0 15 = .int .i64 2) (h16 : lget l0 16 = .int .i64 0)
    (he : ∀ l g H, RdS H id (rNs 2 s0).2 → H.objs[io]? = some (.cells 38 (fillC cs ((rNs 2 s0).1.map nG) o 2)) → Mods (fun j => j = id ∨ j = io) H0 H → Fr L0_x12 l0 l → K (.exit 0, ⟨⟨l, g⟩, H⟩)) :
    optW (erun T (.loop L0_x12) ⟨⟨l0, g0⟩, H0⟩) K := by
  refine range_loop (T := T) (n := 2) (A := Unit) (fun _ _ => []) (fun i _ _ H' => RdS H' id (rNs i s0).2 ∧ H'.objs[io]? = some (.cells 38 (fillC cs ((rNs i s0).1.map nG) o i)) ∧ Mods (fun j => j = id ∨ j = io) H0 H') (c := 17) (b := 0) (I := 16) (N := 15) (d := 24) rfl (by omega) (by decide) ⟨rfl, rfl⟩ (by simp) ?_ ?_ 0 () _ _ H0 (by omega) ⟨hR, by simpa [rNs, fillC] using ho, .refl _ _⟩ (by simp) (.refl _ _ _) h16 (by simpa using h15)
  · intro i _ l g H hi hP hh hf hI
    obtain ⟨hRd, hob, hM⟩ := hP
    have k0 := hf.get 0 rfl h0 rfl
    have k14 := hf.get 14 rfl h14 rfl
    obtain ⟨H1, c1, r1, m1⟩ := rN_spec hRd 4611686018427387903
    have hob1 : H1.objs[io]? = some (.cells 38 (fillC cs ((rNs i s0).1.map nG) o i)) := by rw [m1.obj io (List.getElem?_eq_some_iff.1 hob).1 hne]; exact hob
    have hbo1 : H1.bo ≤ io := by rw [m1.bo, hM.bo]; exact hbo
    have hgp : [GV.ptr io o, .ptr io (o + 1)][i]? = some (.ptr io (o + i)) := by
      rcases i with _ | _ | i
      · rfl
      · rfl
      · omega
    have hgp' := get_of hgp
    have hsp := fill_set (cs := cs) (vals := (rNs i s0).1.map nG) (o := o) (i := i) (by rw [List.length_map, rNs_len]) (by omega) (.int .i64 (rM (rNs i s0).2).1)
    have hix : gIx 2 (.int .i64 (i : Int)) = some i := by simp only [gIx]; rw [if_pos (by omega)]; simp
    simp [k0, k14, hI, hix, hi, hgp, hgp', c1, hob1, hbo1, hsp]
    have ms := Mods.set H1 io (.cells 38 (fillC cs ((rNs (i + 1) s0).1.map nG) o (i + 1)))
    have hmm : (rNs i s0).1.map nG ++ [.int .i64 (rM (rNs i s0).2).1] = (rNs (i + 1) s0).1.map nG := by simp [rNs]
    rw [hmm]
    exact fun _ => ⟨Rd.mods r1 ms (fun e => hne e.symm), obj_set hob1, (hM.trans (m1.weak fun j hj => .inl hj)).trans (ms.weak fun j hj => .inr hj)⟩
  · intro a l g H' hP hh hf
    obtain ⟨hRd, hob, hM⟩ := hP
    exact he l g H' hRd hob hM hf
theorem next_two2 {H0 : GH} {id io o : Nat} {s0 : RS} (hne : io ≠ id) (cs : List GV) (hcs : o + 2 ≤ cs.length) (hR : RdS H0 id s0) (ho : H0.objs[io]? = some (.cells 38 cs)) (hbo : H0.bo ≤ io) (tag : Tag) (l0 : List GV) (g0 : Nat) (K : GExit × St → Prop)
    (h0 : lget l0 0 = .ptr id 0) (h14 : lget l0 37 = .sl 1 [.ptr io o, .ptr io (o + 1)] tag) (h15 : lget l0 38 = .int .i64 2) (h16 : lget l0 39 = .int .i64 0)
    (he : ∀ l g H, RdS H id (rNs 2 s0).2 → H.objs[io]? = some (.cells 38 (fillC cs ((rNs 2 s0).1.map nG) o 2)) → Mods (fun j => j = id ∨ j = io) H0 H → Fr L2_x12 l0 l → K (.exit 4, ⟨⟨l, g⟩, H⟩)) :
    optW (erun T (.loop L2_x12) ⟨⟨l0, g0⟩, H0⟩) K := by
  refine range_loop (T := T) (n := 2) (A := Unit) (fun _ _ => []) (fun i _ _ H' => RdS H' id (rNs i s0).2 ∧ H'.objs[io]? = some (.cells 38 (fillC cs ((rNs i s0).1.map nG) o i)) ∧ Mods (fun j => j = id ∨ j = io) H0 H') (c := 40) (b := 4) (I := 39) (N := 38) (d := 47) rfl (by omega) (by decide) ⟨rfl, rfl⟩ (by simp) ?_ ?_ 0 () _ _ H0 (by omega) ⟨hR, by simpa [rNs, fillC] using ho, .refl _ _⟩ (by simp) (.refl _ _ _) h16 (by simpa using h15)
  · intro i _ l g H hi hP hh hf hI
    obtain ⟨hRd, hob, hM⟩ := hP
    have k0 := hf.get 0 rfl h0 rfl
    have k14 := hf.get 37 rfl h14 rfl
    obtain ⟨H1, c1, r1, m1⟩ := rN_spec hRd 4611686018427387903
    have hob1 : H1.objs[io]? = some (.cells 38 (fillC cs ((rNs i s0).1.map nG) o i)) := by rw [m1.obj io (List.getElem?_eq_some_iff.1 hob).1 hne]; exact hob
    have hbo1 : H1.bo ≤ io := by rw [m1.bo, hM.bo]; exact hbo
    have hgp : [GV.ptr io o, .ptr io (o + 1)][i]? = some (.ptr io (o + i)) := by
      rcases i with _ | _ | i
      · rfl
      · rfl
      · omega
    have hgp' := get_of hgp
    have hsp := fill_set (cs := cs) (vals := (rNs i s0).1.map nG) (o := o) (i := i) (by rw [List.length_map, rNs_len]) (by omega) (.int .i64 (rM (rNs i s0).2).1)
    have hix : gIx 2 (.int .i64 (i : Int)) = some i := by simp only [gIx]; rw [if_pos (by omega)]; simp
    simp [k0, k14, hI, hix, hi, hgp, hgp', c1, hob1, hbo1, hsp]
    have ms := Mods.set H1 io (.cells 38 (fillC cs ((rNs (i + 1) s0).1.map nG) o (i + 1)))
    have hmm : (rNs i s0).1.map nG ++ [.int .i64 (rM (rNs i s0).2).1] = (rNs (i + 1) s0).1.map nG := by simp [rNs]
    rw [hmm]
    exact fun _ => ⟨Rd.mods r1 ms (fun e => hne e.symm), obj_set hob1, (hM.trans (m1.weak fun j hj => .inl hj)).trans (ms.weak fun j hj => .inr hj)⟩
  · intro a l g H' hP hh hf
    obtain ⟨hRd, hob, hM⟩ := hP
    exact he l g H' hRd hob hM hf
theorem next_texts {H0 : GH} {id io o : Nat} {s0 : RS} (hne : io ≠ id) (cs : List GV) (hcs : o + 4 ≤ cs.length) (hR : RdS H0 id s0) (ho : H0.objs[io]? = some (.cells 38 cs)) (hbo : H0.bo ≤ io) (tag : Tag) (l0 : List GV) (g0 : Nat) (K : GExit × St → Prop)
    (h0 : lget l0 0 = .ptr id 0) (h14 : lget l0 56 = .sl 1 [.ptr io o, .ptr io (o + 1), .ptr io (o + 2), .ptr io (o + 3)] tag) (h15 : lget l0 57 = .int .i64 4) (h16 : lget l0 58 = .int .i64 0)
    (he : ∀ l g H, RdS H id (rTs 4 s0).2 → H.objs[io]? = some (.cells 38 (fillC cs ((rTs 4 s0).1.map strG) o 4)) → Mods (fun j => j = id ∨ j = io) H0 H → Fr L3_x12 l0 l → K (.exit 6, ⟨⟨l, g⟩, H⟩)) :
    optW (erun T (.loop L3_x12) ⟨⟨l0, g0⟩, H0⟩) K := by
  refine range_loop (T := T) (n := 4) (A := Unit) (fun _ _ => []) (fun i _ _ H' => RdS H' id (rTs i s0).2 ∧ H'.objs[io]? = some (.cells 38 (fillC cs ((rTs i s0).1.map strG) o i)) ∧ Mods (fun j => j = id ∨ j = io) H0 H') (c := 59) (b := 6) (I := 58) (N := 57) (d := 66) rfl (by omega) (by decide) ⟨rfl, rfl⟩ (by simp) ?_ ?_ 0 () _ _ H0 (by omega) ⟨hR, by simpa [rTs, fillC] using ho, .refl _ _⟩ (by simp) (.refl _ _ _) h16 (by simpa using h15)
  · intro i _ l g H hi hP hh hf hI
    obtain ⟨hRd, hob, hM⟩ := hP
    have k0 := hf.get 0 rfl h0 rfl
    have k14 := hf.get 56 rfl h14 rfl
    obtain ⟨H1, c1, r1, m1⟩ := rT_spec hRd
    have hob1 : H1.objs[io]? = some (.cells 38 (fillC cs ((rTs i s0).1.map strG) o i)) := by rw [m1.obj io (List.getElem?_eq_some_iff.1 hob).1 hne]; exact hob
    have hbo1 : H1.bo ≤ io := by rw [m1.bo, hM.bo]; exact hbo
    have hgp : [GV.ptr io o, .ptr io (o + 1), .ptr io (o + 2), .ptr io (o + 3)][i]? = some (.ptr io (o + i)) := by
      rcases i with _ | _ | _ | _ | i
      · rfl
      · rfl
      · rfl
      · rfl
      · omega
    have hgp' := get_of hgp
    have hsp := fill_set (cs := cs) (vals := (rTs i s0).1.map strG) (o := o) (i := i) (by rw [List.length_map, rTs_len]) (by omega) (.str (mkB (rT (rTs i s0).2).1))
    have hix : gIx 4 (.int .i64 (i : Int)) = some i := by simp only [gIx]; rw [if_pos (by omega)]; simp
    simp [k0, k14, hI, hix, hi, hgp, hgp', c1, hob1, hbo1, hsp]
    have ms := Mods.set H1 io (.cells 38 (fillC cs ((rTs (i + 1) s0).1.map strG) o (i + 1)))
    have hmm : (rTs i s0).1.map strG ++ [.str (mkB (rT (rTs i s0).2).1)] = (rTs (i + 1) s0).1.map strG := by simp [rTs, strG]
    rw [hmm]
    exact fun _ => ⟨Rd.mods r1 ms (fun e => hne e.symm), obj_set hob1, (hM.trans (m1.weak fun j hj => .inl hj)).trans (ms.weak fun j hj => .inr hj)⟩
  · intro a l g H' hP hh hf
    obtain ⟨hRd, hob, hM⟩ := hP
    exact he l g H' hRd hob hM hf
theorem next_past {H0 : GH} {id io o : Nat} {s0 : RS} (hne : io ≠ id) (cs : List GV) (ho2 : o = 2) (hcs : o + 16 ≤ cs.length) (hR : RdS H0 id s0) (ho : H0.objs[io]? = some (.cells 38 cs)) (hbo : H0.bo ≤ io) (l0 : List GV) (g0 : Nat) (K : GExit × St → Prop)
    (h0 : lget l0 0 = .ptr id 0) (h2 : lget l0 2 = .ptr io 0) (h25 : lget l0 25 = .int .i64 0)
    (he : ∀ l g H, RdS H id (rNs 16 s0).2 → H.objs[io]? = some (.cells 38 (fillC cs ((rNs 16 s0).1.map nG) o 16)) → Mods (fun j => j = id ∨ j = io) H0 H → Fr L1_x12 l0 l → K (.exit 2, ⟨⟨l, g⟩, H⟩)) :
    optW (erun T (.loop L1_x12) ⟨⟨l0, g0⟩, H0⟩) K := by
  refine range_loop_c (T := T) (n := 16) (A := Unit) (fun _ _ => []) (fun i _ _ H' => RdS H' id (rNs i s0).2 ∧ H'.objs[io]? = some (.cells 38 (fillC cs ((rNs i s0).1.map nG) o i)) ∧ Mods (fun j => j = id ∨ j = io) H0 H') (c := 26) (b := 2) (I := 25) (d := 33) rfl (by omega) (by decide) rfl (by simp) ?_ ?_ 0 () _ _ H0 (by omega) ⟨hR, by simpa [rNs, fillC] using ho, .refl _ _⟩ (by simp) (.refl _ _ _) h25
  · intro i _ l g H hi hP hh hf hI
    obtain ⟨hRd, hob, hM⟩ := hP
    have k0 := hf.get 0 rfl h0 rfl
    have k2 := hf.get 2 rfl h2 rfl
    obtain ⟨H1, c1, r1, m1⟩ := rN_spec hRd 4611686018427387903
    have hob1 : H1.objs[io]? = some (.cells 38 (fillC cs ((rNs i s0).1.map nG) o i)) := by rw [m1.obj io (List.getElem?_eq_some_iff.1 hob).1 hne]; exact hob
    have hbo1 : H1.bo ≤ io := by rw [m1.bo, hM.bo]; exact hbo
    have hsp := fill_set (cs := cs) (vals := (rNs i s0).1.map nG) (o := o) (i := i) (by rw [List.length_map, rNs_len]) (by omega) (.int .i64 (rM (rNs i s0).2).1)
    have hix : gIx 16 (.int .i64 (i : Int)) = some i := by simp only [gIx]; rw [if_pos (by omega)]; simp
    subst ho2
    simp [k0, k2, hI, hix, c1, hob1, hbo1, hsp]
    have ms := Mods.set H1 io (.cells 38 (fillC cs ((rNs (i + 1) s0).1.map nG) 2 (i + 1)))
    have hmm : (rNs i s0).1.map nG ++ [.int .i64 (rM (rNs i s0).2).1] = (rNs (i + 1) s0).1.map nG := by simp [rNs]
    rw [hmm]
    exact fun _ => ⟨Rd.mods r1 ms (fun e => hne e.symm), obj_set hob1, (hM.trans (m1.weak fun j hj => .inl hj)).trans (ms.weak fun j hj => .inr hj)⟩
  · intro a l g H' hP hh hf
    obtain ⟨hRd, hob, hM⟩ := hP
    exact he l g H' hRd hob hM hf
end Go.Proofs.YthmplnbogdfajaaGreatDoor
namespace Go.Proofs.YthmplnbogdfajaaGreatDoor
open Go.Sh
set_option maxRecDepth 100000
def rdV (s : RS) : Evt × RS :=
  let d := rNs 2 s
  let p := rNs 16 d.2
  let k := rNs 2 p.2
  let t := rTs 4 k.2
  let vk := rM t.2
  let vn := rG vk.2
  let vt := rT vn.2
  (⟨d.1.getD 0 0, d.1.getD 1 0, p.1, k.1.getD 0 0, ⟨k.1.getD 1 0, t.1.getD 0 [], t.1.getD 1 [], t.1.getD 2 [], t.1.getD 3 []⟩, vk.1, vn.1, vt.1⟩, vt.2)
abbrev ev0 : List GV := [.int .i64 0, .int .i64 0, .int .i64 0, .int .i64 0, .int .i64 0, .int .i64 0, .int .i64 0, .int .i64 0, .int .i64 0, .int .i64 0, .int .i64 0, .int .i64 0, .int .i64 0, .int .i64 0, .int .i64 0, .int .i64 0, .int .i64 0, .int .i64 0, .int .i64 0, .int .i64 0, .str ⟨#[]⟩, .str ⟨#[]⟩, .str ⟨#[]⟩, .str ⟨#[]⟩, .int .i64 0, .int .i64 0, .str ⟨#[]⟩]
theorem fill_len {cs vals : List GV} {o i : Nat} (hl : vals.length = i) (h : o + i ≤ cs.length) : (fillC cs vals o i).length = cs.length := by
  unfold fillC
  simp only [List.length_append, List.length_take, List.length_drop]; omega
theorem next_cells (x y op k a b c d : GV) (P : List GV) (hP : P.length = 16) :
    fillC (fillC (fillC (fillC ev0 [x, y] 0 2) P 2 16) [op, k] 18 2) [a, b, c, d] 20 4 = x :: y :: (P ++ [op, k, a, b, c, d, .int .i64 0, .int .i64 0, .str ⟨#[]⟩]) := by
  have h1 : fillC (fillC ev0 [x, y] 0 2) P 2 16 = x :: y :: (P ++ [.int .i64 0, .int .i64 0, .str ⟨#[]⟩, .str ⟨#[]⟩, .str ⟨#[]⟩, .str ⟨#[]⟩, .int .i64 0, .int .i64 0, .str ⟨#[]⟩]) := by simp [fillC]
  rw [h1]
  have t1 : List.take 18 P = P := List.take_of_length_le (by omega)
  have t2 : List.drop 18 P = [] := List.drop_of_length_le (by omega)
  have t3 : List.drop 22 P = [] := List.drop_of_length_le (by omega)
  simp [fillC, List.take_append, List.drop_append, hP, t1, t2, t3]
theorem next_set (x y : GV) (P : List GV) (hP : P.length = 16) (A B : List GV) (z z' : GV) {n : Nat} (hn : n = 18 + A.length) :
    setPart (x :: y :: (P ++ (A ++ z :: B))) n [z'] = some (x :: y :: (P ++ (A ++ z' :: B))) := by
  subst hn
  unfold setPart
  rw [if_pos (by simp [hP]; omega)]
  congr 1
  rw [show 18 + A.length = (A.length + 16) + 2 by omega]
  have t1 : List.take (A.length + 16) P = P := List.take_of_length_le (by omega)
  have t2 : List.drop (A.length + 17) P = [] := List.drop_of_length_le (by omega)
  have t3 : List.drop (A.length + 1) A = [] := List.drop_of_length_le (by omega)
  simp [List.take_append, List.drop_append, hP, t1, t2, t3]
theorem event_next {H : GH} {id : Nat} {s : RS} (h : RdS H id s) (hbo : H.bo ≤ H.objs.length) :
    ∃ H', ecall T f_x12 [.ptr id 0] H = some (evG (rdV s).1, H') ∧ EvFit (rdV s).1 ∧ RdS H' id (rdV s).2 ∧ Mods (· = id) H H' := by
  have hlt := h.lt
  have key : optW (ecall T f_x12 [.ptr id 0] H) fun r => r.1 = evG (rdV s).1 ∧ EvFit (rdV s).1 ∧ RdS r.2 id (rdV s).2 ∧ Mods (· = id) H r.2 := by
    rw [ecall_0 T_x12 rfl (by simp [F_x12]), wp_fin1]
    simp only [F_x12, b_x12]
    have m0 := Mods.new (· = id) H (.cells 38 ev0)
    have h0 : RdS (H.newObj (.cells 38 ev0)) id s := Rd.mods h (Mods.new (fun _ => False) H _) (by simp)
    have hne : H.objs.length ≠ id := by omega
    have hob : (H.newObj (.cells 38 ev0)).objs[H.objs.length]? = some (.cells 38 ev0) := by simp [GH.newObj]
    simp [gSetAll]
    rw [wp_seqK, wp_blockK]
    refine next_two0 (o := 0) (io := H.objs.length) hne ev0 (by simp) h0 hob hbo .exact _ _ _ (by simp) (by simp) (by simp) (by simp) ?_
    intro l1 g1 H1 r1 o1 m1 f1
    have k2 := f1.get 2 rfl (v := .ptr H.objs.length 0) (by simp) rfl
    have k0 := f1.get 0 rfl (v := .ptr id 0) (by simp) rfl
    simp
    rw [wp_seqK, wp_blockK]
    have hl1 := fill_len (cs := ev0) (vals := (rNs 2 s).1.map nG) (o := 0) (i := 2) (by rw [List.length_map, rNs_len]) (by simp)
    have hbo1 : H1.bo ≤ H.objs.length := by rw [m1.bo]; exact hbo
    refine next_past (o := 2) (io := H.objs.length) hne _ rfl (by rw [hl1]; simp) r1 o1 hbo1 _ _ _ (by simp [k0]) (by simp [k2]) (by simp) ?_
    intro l2 g2 H2 r2 o2 m2 f2
    have k2' := f2.get 2 rfl (v := .ptr H.objs.length 0) (by simp [k2]) rfl
    have k0' := f2.get 0 rfl (v := .ptr id 0) (by simp [k0]) rfl
    have hl2 := fill_len (cs := fillC ev0 ((rNs 2 s).1.map nG) 0 2) (vals := (rNs 16 (rNs 2 s).2).1.map nG) (o := 2) (i := 16) (by rw [List.length_map, rNs_len]) (by rw [hl1]; simp)
    have hbo2 : H2.bo ≤ H.objs.length := by rw [m2.bo]; exact hbo1
    simp [k2', gSetAll]
    rw [wp_seqK, wp_blockK]
    refine next_two2 (o := 18) (io := H.objs.length) hne _ (by rw [hl2, hl1]; simp) r2 o2 hbo2 .exact _ _ _ (by simp [k0']) (by simp) (by simp) (by simp) ?_
    intro l3 g3 H3 r3 o3 m3 f3
    have k2'' := f3.get 2 rfl (v := .ptr H.objs.length 0) (by simp [k2']) rfl
    have k0'' := f3.get 0 rfl (v := .ptr id 0) (by simp [k0']) rfl
    have hl3 := fill_len (cs := fillC (fillC ev0 ((rNs 2 s).1.map nG) 0 2) ((rNs 16 (rNs 2 s).2).1.map nG) 2 16) (vals := (rNs 2 (rNs 16 (rNs 2 s).2).2).1.map nG) (o := 18) (i := 2) (by rw [List.length_map, rNs_len]) (by rw [hl2, hl1]; simp)
    have hbo3 : H3.bo ≤ H.objs.length := by rw [m3.bo]; exact hbo2
    simp [k2'', gSetAll]
    rw [wp_seqK, wp_blockK]
    refine next_texts (o := 20) (io := H.objs.length) hne _ (by rw [hl3, hl2, hl1]; simp) r3 o3 hbo3 .exact _ _ _ (by simp [k0'']) (by simp) (by simp) (by simp) ?_
    intro l4 g4 H4 r4 o4 m4 f4
    have k2d := f4.get 2 rfl (v := .ptr H.objs.length 0) (by simp [k2'']) rfl
    have k0d := f4.get 0 rfl (v := .ptr id 0) (by simp [k0'']) rfl
    have hbo4 : H4.bo ≤ H.objs.length := by rw [m4.bo]; exact hbo3
    obtain ⟨C0, hC0⟩ : ∃ C, C = nG ((rNs 2 s).1.getD 0 0) :: nG ((rNs 2 s).1.getD 1 0) :: ((rNs 16 (rNs 2 s).2).1.map nG ++ [nG ((rNs 2 (rNs 16 (rNs 2 s).2).2).1.getD 0 0), nG ((rNs 2 (rNs 16 (rNs 2 s).2).2).1.getD 1 0), strG ((rTs 4 (rNs 2 (rNs 16 (rNs 2 s).2).2).2).1.getD 0 []), strG ((rTs 4 (rNs 2 (rNs 16 (rNs 2 s).2).2).2).1.getD 1 []), strG ((rTs 4 (rNs 2 (rNs 16 (rNs 2 s).2).2).2).1.getD 2 []), strG ((rTs 4 (rNs 2 (rNs 16 (rNs 2 s).2).2).2).1.getD 3 []), .int .i64 0, .int .i64 0, .str ⟨#[]⟩]) := ⟨_, rfl⟩
    have o4' : H4.objs[H.objs.length]? = some (.cells 38 C0) := by
      rw [o4, hC0]
      exact congrArg (fun c => some (GObj.cells 38 c)) (next_cells _ _ _ _ _ _ _ _ _ (by rw [List.length_map, rNs_len]))
    have hPl : ((rNs 16 (rNs 2 s).2).1.map nG).length = 16 := by rw [List.length_map, rNs_len]
    clear o4
    obtain ⟨H5, c5, r5, m5⟩ := rN_spec r4 4611686018427387903
    have o5 : H5.objs[H.objs.length]? = some (.cells 38 C0) := by rw [m5.obj _ (List.getElem?_eq_some_iff.1 o4').1 hne]; exact o4'
    have hbo5 : H5.bo ≤ H.objs.length := by rw [m5.bo]; exact hbo4
    obtain ⟨C1, hs1, hC1⟩ : ∃ C, setPart C0 24 [.int .i64 (rM (rTs 4 (rNs 2 (rNs 16 (rNs 2 s).2).2).2).2).1] = some C ∧ C = nG ((rNs 2 s).1.getD 0 0) :: nG ((rNs 2 s).1.getD 1 0) :: ((rNs 16 (rNs 2 s).2).1.map nG ++ [nG ((rNs 2 (rNs 16 (rNs 2 s).2).2).1.getD 0 0), nG ((rNs 2 (rNs 16 (rNs 2 s).2).2).1.getD 1 0), strG ((rTs 4 (rNs 2 (rNs 16 (rNs 2 s).2).2).2).1.getD 0 []), strG ((rTs 4 (rNs 2 (rNs 16 (rNs 2 s).2).2).2).1.getD 1 []), strG ((rTs 4 (rNs 2 (rNs 16 (rNs 2 s).2).2).2).1.getD 2 []), strG ((rTs 4 (rNs 2 (rNs 16 (rNs 2 s).2).2).2).1.getD 3 []), .int .i64 (rM (rTs 4 (rNs 2 (rNs 16 (rNs 2 s).2).2).2).2).1, .int .i64 0, .str ⟨#[]⟩]) := by
      rw [hC0]; exact ⟨_, next_set _ _ _ hPl [_, _, _, _, _, _] [_, _] _ _ rfl, rfl⟩
    have ms5 := Mods.set H5 H.objs.length (.cells 38 C1)
    obtain ⟨H6, c6, r6, m6⟩ := rG_spec (Rd.mods r5 ms5 (fun e => hne e.symm))
    have o6 : H6.objs[H.objs.length]? = some (.cells 38 C1) := by rw [m6.obj _ (List.getElem?_eq_some_iff.1 (obj_set o5)).1 hne]; exact obj_set o5
    have hbo6 : H6.bo ≤ H.objs.length := by rw [m6.bo]; exact hbo5
    generalize hvk : (rM (rTs 4 (rNs 2 (rNs 16 (rNs 2 s).2).2).2).2) = vk at hs1 hC1
    obtain ⟨C2, hs2, hC2⟩ : ∃ C, setPart C1 25 [.int .i64 (rG vk.2).1] = some C ∧ C = nG ((rNs 2 s).1.getD 0 0) :: nG ((rNs 2 s).1.getD 1 0) :: ((rNs 16 (rNs 2 s).2).1.map nG ++ [nG ((rNs 2 (rNs 16 (rNs 2 s).2).2).1.getD 0 0), nG ((rNs 2 (rNs 16 (rNs 2 s).2).2).1.getD 1 0), strG ((rTs 4 (rNs 2 (rNs 16 (rNs 2 s).2).2).2).1.getD 0 []), strG ((rTs 4 (rNs 2 (rNs 16 (rNs 2 s).2).2).2).1.getD 1 []), strG ((rTs 4 (rNs 2 (rNs 16 (rNs 2 s).2).2).2).1.getD 2 []), strG ((rTs 4 (rNs 2 (rNs 16 (rNs 2 s).2).2).2).1.getD 3 []), .int .i64 vk.1, .int .i64 (rG vk.2).1, .str ⟨#[]⟩]) := by
      rw [hC1]; exact ⟨_, next_set _ _ _ hPl [_, _, _, _, _, _, _] [_] _ _ rfl, rfl⟩
    have ms6 := Mods.set H6 H.objs.length (.cells 38 C2)
    obtain ⟨H7, c7, r7, m7⟩ := rT_spec (Rd.mods r6 ms6 (fun e => hne e.symm))
    have o7 : H7.objs[H.objs.length]? = some (.cells 38 C2) := by rw [m7.obj _ (List.getElem?_eq_some_iff.1 (obj_set o6)).1 hne]; exact obj_set o6
    have hbo7 : H7.bo ≤ H.objs.length := by rw [m7.bo]; exact hbo6
    have hrd : (rdV s).1 = ⟨(rNs 2 s).1.getD 0 0, (rNs 2 s).1.getD 1 0, (rNs 16 (rNs 2 s).2).1, (rNs 2 (rNs 16 (rNs 2 s).2).2).1.getD 0 0, ⟨(rNs 2 (rNs 16 (rNs 2 s).2).2).1.getD 1 0, (rTs 4 (rNs 2 (rNs 16 (rNs 2 s).2).2).2).1.getD 0 [], (rTs 4 (rNs 2 (rNs 16 (rNs 2 s).2).2).2).1.getD 1 [], (rTs 4 (rNs 2 (rNs 16 (rNs 2 s).2).2).2).1.getD 2 [], (rTs 4 (rNs 2 (rNs 16 (rNs 2 s).2).2).2).1.getD 3 []⟩, vk.1, (rG vk.2).1, (rT (rG vk.2).2).1⟩ := by rw [← hvk]; rfl
    have hs3 : setPart C2 26 [.str (mkB (rT (rG vk.2).2).1)] = some (evC (rdV s).1) := by
      rw [hC2, hrd]; exact next_set _ _ _ hPl [_, _, _, _, _, _, _, _] [] _ _ rfl
    have hr2 : (rT (rG vk.2).2).2 = (rdV s).2 := by rw [← hvk]; rfl
    subst hvk
    have hfit : EvFit (rdV s).1 := ⟨rNs_len _ _, ⟨rT_len _, rT_len _, rT_len _, rT_len _⟩, rT_len _, (rG_ok r5.isb).1, (rG_ok r5.isb).2⟩
    have ms7 := Mods.set H7 H.objs.length (.cells 38 (evC (rdV s).1))
    have el := ev_len hfit.past
    have e27 : List.take 27 (evC (rdV s).1) = evC (rdV s).1 := List.take_of_length_le (by rw [el]; exact Nat.le_refl _)
    have eone := ev_one hfit.past
    have sp27 : setPart (evC (rdV s).1) 0 (evC (rdV s).1) = some (evC (rdV s).1) := by simp only [setPart, el]; simp [el]
    have mA : Mods (fun j => j = id ∨ j = H.objs.length) H H4 := (((m0.weak fun j hj => .inl hj).trans m1).trans m2).trans (m3.trans m4)
    have mB := ((mA.trans (m5.weak fun j hj => .inl hj)).trans (ms5.weak fun j hj => .inr hj)).trans (m6.weak fun j hj => .inl hj)
    have mC := ((mB.trans (ms6.weak fun j hj => .inr hj)).trans (m7.weak fun j hj => .inl hj)).trans (ms7.weak fun j hj => .inr hj)
    have mD := Mods.drop mC (Nat.le_refl _)
    have rE := Rd.mods r7 ms7 (fun e => hne e.symm)
    simp [k2d, k0d, c5, o5, hbo5, hs1, c6, o6, hbo6, hs2, c7, o7, hbo7, hs3, obj_set o7, el, e27, eone, sp27]
    exact ⟨hfit, hr2 ▸ rE, mD⟩
  obtain ⟨⟨r, H'⟩, e1, e2, e3, e4, e5⟩ := key
  simp only at e2
  subst e2
  exact ⟨H', e1, e3, e4, e5⟩
end Go.Proofs.YthmplnbogdfajaaGreatDoor
namespace Go.Proofs.YthmplnbogdfajaaGreatDoor
open Go.Sh
set_option maxRecDepth 100000
def evNone : Evt := ⟨0, 0, List.replicate 16 0, 0, ⟨0, [], [], [], []⟩, 0, 0, []⟩
def rdR (s : RS) : (Evt × Bool) × RS :=
  let r := rdV s
  if r.2.2 = true ∨ evB r.1 = false then ((evNone, false), r.2) else ((r.1, true), r.2)
theorem evNone_C : evC evNone = ev0 := rfl
theorem evNone_fit : EvFit evNone := ⟨rfl, ⟨by simp [evNone], by simp [evNone], by simp [evNone], by simp [evNone]⟩, by simp [evNone], by simp [evNone], by simp [evNone]⟩
theorem event_Read {H : GH} {id : Nat} {s : RS} (h : RdS H id s) (hbo : H.bo ≤ H.objs.length) :
    ∃ H', ecall T f_x8 [.ptr id 0] H = some (.tup [evG (rdR s).1.1, .bool (rdR s).1.2], H') ∧ EvFit (rdR s).1.1 ∧ RdS H' id (rdR s).2 ∧ Mods (· = id) H H' := by
  obtain ⟨H1, c1, f1, r1, m1⟩ := event_next h hbo
  have hfail := fail_spec r1
  have hev := event_Right (rdV s).1 f1 H1
  have l1 := ev_len f1.past
  have l4 : List.take 27 (evC (rdV s).1) = evC (rdV s).1 := List.take_of_length_le (by rw [l1]; exact Nat.le_refl _)
  have lo := ev_one f1.past
  have sp : setPart ev0 0 (evC (rdV s).1) = some (evC (rdV s).1) := by
    simp only [setPart, l1]; simp [l1]
  simp only [ev0] at sp
  have key : optW (ecall T f_x8 [.ptr id 0] H) fun r => r = (.tup [evG (rdR s).1.1, .bool (rdR s).1.2], H1) ∧ EvFit (rdR s).1.1 ∧ (rdR s).2 = (rdV s).2 := by
    rw [ecall_0 T_x8 rfl (by simp [F_x8]), wp_fin1]
    simp only [F_x8, b_x8]
    cases hb : (rdV s).2.2 with
    | true =>
      rw [hb] at hfail
      have hR : rdR s = ((evNone, false), (rdV s).2) := by unfold rdR; rw [if_pos (.inl hb)]
      rw [hR]
      simp [c1, hfail, sp, l1, l4, lo, gFill, setPart, evNone_C, evNone_fit]
    | false =>
      rw [hb] at hfail
      cases he : evB (rdV s).1 with
      | false =>
        rw [he] at hev
        have hR : rdR s = ((evNone, false), (rdV s).2) := by unfold rdR; rw [if_pos (.inr he)]
        rw [hR]
        simp [c1, hfail, hev, sp, l1, l4, lo, gFill, setPart, evNone_C, evNone_fit]
      | true =>
        rw [he] at hev
        have hR : rdR s = (((rdV s).1, true), (rdV s).2) := by unfold rdR; rw [if_neg (by simp [hb, he])]
        rw [hR]
        simp [c1, hfail, hev, sp, l1, l4, lo, f1]
  obtain ⟨r, e1, e2, e3, e4⟩ := key
  subst e2
  exact ⟨H1, e1, e3, by rw [e4]; exact r1, m1⟩
end Go.Proofs.YthmplnbogdfajaaGreatDoor
namespace Go.Proofs.YthmplnbogdfajaaGreatDoor
open Go.Sh
set_option maxRecDepth 100000
def oddB (odd : Bool) (s : RS) : Bool := odd || (!(rdR s).1.2 && !(rdR s).2.2)
theorem Parse_1 {H : GH} {id io : Nat} {s : RS} {odd : Bool} (h : RdS H id s) (hbo : H.bo ≤ H.objs.length) (hne : io ≠ id) (ho : H.objs[io]? = some (.cells 4 [.bool odd])) (hio : H.bo ≤ io) :
    ∃ H', ecall T f_x48 [.ptr id 0, .ptr io 0] H = some (evG (rdR s).1.1, H') ∧ EvFit (rdR s).1.1 ∧ RdS H' id (rdR s).2 ∧ H'.objs[io]? = some (.cells 4 [.bool (oddB odd s)]) ∧ Mods (fun j => j = id ∨ j = io) H H' := by
  obtain ⟨H1, c1, f1, r1, m1⟩ := event_Read h hbo
  have hfail := fail_spec r1
  have o1 : H1.objs[io]? = some (.cells 4 [.bool odd]) := by rw [m1.obj _ (List.getElem?_eq_some_iff.1 ho).1 hne]; exact ho
  have hio1 : H1.bo ≤ io := by rw [m1.bo]; exact hio
  have l1 := ev_len f1.past
  have l4 : List.take 27 (evC (rdR s).1.1) = evC (rdR s).1.1 := List.take_of_length_le (by rw [l1]; exact Nat.le_refl _)
  have lo := ev_one f1.past
  have sp : setPart ev0 0 (evC (rdR s).1.1) = some (evC (rdR s).1.1) := by
    simp only [setPart, l1]; simp [l1]
  simp only [ev0] at sp
  have ms := Mods.set H1 io (.cells 4 [.bool (oddB odd s)])
  have key : optW (ecall T f_x48 [.ptr id 0, .ptr io 0] H) fun r => r = (evG (rdR s).1.1, { H1 with objs := H1.objs.set io (.cells 4 [.bool (oddB odd s)]) }) := by
    rw [ecall_0 T_x48 rfl (by simp [F_x48]), wp_fin1]
    simp only [F_x48, b_x48]
    unfold oddB
    cases odd with
    | true => simp [c1, hfail, o1, hio1, sp, l1, l4, lo, setPart]
    | false =>
      cases hb : (rdR s).1.2 with
      | true => simp [c1, hb, hfail, o1, hio1, sp, l1, l4, lo, setPart]
      | false =>
        cases hf : (rdR s).2.2 with
        | true => rw [hf] at hfail; simp [c1, hb, hfail, o1, hio1, sp, l1, l4, lo, setPart]
        | false => rw [hf] at hfail; simp [c1, hb, hfail, o1, hio1, sp, l1, l4, lo, setPart]
  obtain ⟨r, e1, e2⟩ := key
  subst e2
  exact ⟨_, e1, f1, Rd.mods r1 ms (fun e => hne e.symm), obj_set o1, (m1.weak fun j hj => .inl hj).trans (ms.weak fun j hj => .inr hj)⟩
end Go.Proofs.YthmplnbogdfajaaGreatDoor
namespace Go.Proofs.YthmplnbogdfajaaGreatDoor
open Go.Sh
set_option maxRecDepth 100000
def rowsO : Nat → RS → Bool → List Evt → List Evt × RS × Bool
  | 0, s, o, acc => (acc, s, o)
  | n + 1, s, o, acc => if (rdR s).2.2 = true then ([], (rdR s).2, oddB o s) else rowsO n (rdR s).2 (oddB o s) (acc ++ [(rdR s).1.1])
def rdRowsO (s : RS) : List Evt × RS × Bool := rowsO (rN 100000 s).1.toNat (rN 100000 s).2 false []
structure VSt where
  v : GV
  s : RS
  o : Bool
  acc : List Evt
structure VInv (H0 : GH) (id io n : Nat) (s0 : RS) (i : Nat) (a : VSt) (H' : GH) : Prop where
  rd : RdS H' id a.s
  od : H'.objs[io]? = some (.cells 4 [.bool a.o])
  app : App H' 27 a.v (a.acc.map evG)
  fit : ∀ e ∈ a.acc, EvFit e
  len : a.acc.length = i
  row : rowsO n s0 false [] = rowsO (n - i) a.s a.o a.acc
  mods : Mods (fun j => j = id ∨ j = io) H0 H'
  fresh : ∀ t, tokOf a.v = some t → H0.toks.length ≤ t
theorem rowsV_loop {H0 : GH} {id io : Nat} {s0 : RS} (n : Nat) (hn : n ≤ 100000) (hR : RdS H0 id s0) (hbt : H0.bt ≤ H0.toks.length) (hbo : H0.bo ≤ H0.objs.length) (hne : io ≠ id) (ho : H0.objs[io]? = some (.cells 4 [.bool false])) (hio : H0.bo ≤ io) (l0 : List GV) (g0 : Nat) (K : GExit × St → Prop)
    (h0 : lget l0 0 = .ptr id 0) (h1 : lget l0 1 = .func f_x48 [] [.ptr io 0]) (h7 : lget l0 7 = .int .i64 n) (h8 : lget l0 8 = .int .i64 0) (h5 : lget l0 5 = .nilsl)
    (he : ∀ l g H a, lget l 5 = a.v → VInv H0 id io n s0 n a H → K (.exit 0, ⟨⟨l, g⟩, H⟩))
    (hr : ∀ l g H, lget l 4 = .nilsl → (rowsO n s0 false []).1 = [] → RdS H id (rowsO n s0 false []).2.1 → H.objs[io]? = some (.cells 4 [.bool (rowsO n s0 false []).2.2]) → Mods (fun j => j = id ∨ j = io) H0 H → K (.ret, ⟨⟨l, g⟩, H⟩)) :
    optW (erun T (.loop L0_x59) ⟨⟨l0, g0⟩, H0⟩) K := by
  refine range_loop (T := T) (n := n) (A := VSt) (fun _ a => [(5, a.v)]) (fun i a _ H' => VInv H0 id io n s0 i a H') (c := 9) (b := 0) (I := 8) (N := 7) (d := 18) rfl (by omega) (by decide) ⟨rfl, rfl⟩ (by simp) ?_ ?_ 0 ⟨.nilsl, s0, false, []⟩ _ _ H0 (by omega) ⟨hR, ho, .nil, by simp, rfl, rfl, .refl _ _, by simp [tokOf]⟩ (by simp [h5]) (.refl _ _ _) h8 h7
  · intro i a l g H' hi hP hh hf hI
    obtain ⟨hRd, hod, hA, hfit, hlen, hrow, hM, hF⟩ := hP
    have k0 := hf.get 0 rfl h0 rfl
    have k1 := hf.get 1 rfl h1 rfl
    simp only [Holds_cons, Holds_nil, and_true] at hh
    obtain ⟨H1, c1, f1, r1, o1, m1⟩ := Parse_1 hRd (by rw [hM.bo]; exact Nat.le_trans hbo hM.olen) hne hod (by rw [hM.bo]; exact hio)
    have hA1 := App.keepM hA m1
    have hb1 : H1.bt ≤ H1.toks.length := m1.btle (hM.btle hbt)
    obtain ⟨v', H2, c2, a2, t2, i2⟩ := append_ok (ty := 38) (bytes := 256) (ys := [evG (rdR a.s).1.1]) (x := .sl 27 [evG (rdR a.s).1.1] .exact) hA1 (by simp [gNews]) hb1 (by simp only [List.length_singleton, List.length_map, room]; omega) (by simp only [List.length_singleton, List.length_map, maxLen]; omega)
    have r2 := Rd.step r1 t2
    have o2 : H2.objs[io]? = some (.cells 4 [.bool (oddB a.o a.s)]) := by rw [t2.objs]; exact o1
    have hfail := fail_spec r2
    have l1 := ev_len f1.past
    have lo := ev_one f1.past
    have hF2 : ∀ t, tokOf v' = some t → H0.toks.length ≤ t := fun t ht => by
      rcases i2 with e | e
      · exact hF t (e ▸ ht)
      · exact Nat.le_trans (Nat.le_trans hM.tlen m1.tlen) (e t ht)
    have hstep : n - i = (n - (i + 1)) + 1 := by omega
    have hM2 := Mods.fresh (hM.trans m1) t2 hF
    rw [hstep, rowsO] at hrow
    cases hbad : (rdR a.s).2.2 with
    | true =>
      rw [hbad] at hfail
      rw [if_pos hbad] at hrow
      simp [k0, k1, hh, hA.ok, c1, gSetAll, l1, lo, c2, a2.ok, hfail]
      exact fun _ => hr _ _ _ (by simp) (by rw [hrow]) (by rw [hrow]; exact r2) (by rw [hrow]; exact o2) hM2
    | false =>
      rw [hbad] at hfail
      rw [if_neg (by rw [hbad]; simp)] at hrow
      simp [k0, k1, hh, hA.ok, c1, gSetAll, l1, lo, c2, a2.ok, hfail]
      refine fun _ => ⟨⟨v', (rdR a.s).2, oddB a.o a.s, a.acc ++ [(rdR a.s).1.1]⟩, ⟨r2, o2, by simpa using a2, ?_, by simp [hlen], hrow, hM2, hF2⟩, rfl⟩
      intro e hm
      rcases List.mem_append.1 hm with hm | hm
      · exact hfit e hm
      · rw [List.mem_singleton] at hm; subst hm; exact f1
  · intro a l g H' hP hh hf
    simp only [Holds_cons, Holds_nil, and_true] at hh
    exact he l g H' a hh hP
theorem rowsV {H : GH} {id io : Nat} {s : RS} (h : RdS H id s) (hbt : H.bt ≤ H.toks.length) (hbo : H.bo ≤ H.objs.length) (hne : io ≠ id) (ho : H.objs[io]? = some (.cells 4 [.bool false])) (hio : H.bo ≤ io) :
    ∃ (v : GV) (H' : GH), ecall T f_x59 [.ptr id 0, .func f_x48 [] [.ptr io 0]] H = some (v, H') ∧ Elems 27 v ((rdRowsO s).1.map evG) ∧ (∀ e ∈ (rdRowsO s).1, EvFit e) ∧ (rdRowsO s).1.length ≤ 100000 ∧ RdS H' id (rdRowsO s).2.1 ∧ H'.objs[io]? = some (.cells 4 [.bool (rdRowsO s).2.2]) ∧ Mods (fun j => j = id ∨ j = io) H H' := by
  obtain ⟨H1, c1, h1, m1⟩ := rN_spec h 100000
  have b0 := (rN_ok h.isb 100000).1
  have b1 := rN_most (s := s) 100000 (by omega)
  have hb1 := m1.btle hbt
  have key : optW (ecall T f_x59 [.ptr id 0, .func f_x48 [] [.ptr io 0]] H) fun r => Elems 27 r.1 ((rdRowsO s).1.map evG) ∧ (∀ e ∈ (rdRowsO s).1, EvFit e) ∧ (rdRowsO s).1.length ≤ 100000 ∧ RdS r.2 id (rdRowsO s).2.1 ∧ r.2.objs[io]? = some (.cells 4 [.bool (rdRowsO s).2.2]) ∧ Mods (fun j => j = id ∨ j = io) H r.2 := by
    rw [ecall_0 T_x59 rfl (by simp [F_x59]), wp_fin1]
    simp only [F_x59, b_x59]
    simp [c1]
    rw [wp_seqK, wp_blockK]
    refine rowsV_loop (io := io) (rN 100000 s).1.toNat (by omega) h1 hb1 (by rw [m1.bo]; exact Nat.le_trans hbo m1.olen) hne (by rw [m1.obj _ (List.getElem?_eq_some_iff.1 ho).1 hne]; exact ho) (by rw [m1.bo]; exact hio) _ _ _ (by simp) (by simp) (by simp; omega) (by simp) (by simp) ?_ ?_
    · intro l g H2 a k5 hI
      obtain ⟨hRd, hod, hA, hfit, hlen, hrow, hM, _⟩ := hI
      rw [Nat.sub_self, rowsO] at hrow
      have hR : rdRowsO s = (a.acc, a.s, a.o) := hrow
      rw [hR]
      simp [k5, hA.ok]
      exact ⟨hA.elems, hfit, by rw [hlen]; omega, hRd, hod, (m1.weak fun j hj => .inl hj).trans hM⟩
    · intro l g H2 k4 hE hR hod hM
      have hz : (rdRowsO s).1 = [] := hE
      simp [k4, hz]
      exact ⟨.nil, hR, hod, (m1.weak fun j hj => .inl hj).trans hM⟩
  obtain ⟨⟨v, H'⟩, e1, e2, e3, e4, e5, e6, e7⟩ := key
  exact ⟨v, H', e1, e2, e3, e4, e5, e6, e7⟩
end Go.Proofs.YthmplnbogdfajaaGreatDoor
namespace Go.Proofs.YthmplnbogdfajaaGreatDoor
open Go.Sh
set_option maxRecDepth 100000
abbrev sn0 : List GV := [.int .i64 0, .int .i64 0, .int .i64 0, .int .i64 0, .int .i64 0, .int .i64 0, .int .i64 0, .int .i64 0, .int .i64 0, .int .i64 0, .int .i64 0, .int .i64 0, .int .i64 0, .int .i64 0, .int .i64 0, .int .i64 0, .nilsl, .nilsl]
theorem parse_nums {H0 : GH} {id : Nat} {s0 : RS} (hR : RdS H0 id s0) (l0 : List GV) (g0 g5 : Nat) (K : GExit × St → Prop)
    (h4 : lget l0 4 = .ptr id 0) (h5 : lget l0 5 = .lbox g5 sn0) (h10 : lget l0 10 = .int .i64 0) (g2 : Nat) (c2 : List GV) (h2 : lget l0 2 = .lbox g2 c2)
    (he : ∀ l g H, RdS H id (rNs 16 s0).2 → Mods (· = id) H0 H → lget l 5 = .lbox g5 (fillC sn0 ((rNs 16 s0).1.map nG) 0 16) → lget l 2 = .lbox g2 c2 → Fr L0_x47 l0 l → K (.exit 0, ⟨⟨l, g⟩, H⟩)) :
    optW (erun T (.loop L0_x47) ⟨⟨l0, g0⟩, H0⟩) K := by
  refine range_loop_c (T := T) (n := 16) (A := Unit) (fun i _ => [(5, .lbox g5 (fillC sn0 ((rNs i s0).1.map nG) 0 i)), (2, .lbox g2 c2)]) (fun i _ _ H' => RdS H' id (rNs i s0).2 ∧ Mods (· = id) H0 H') (c := 11) (b := 0) (I := 10) (d := 18) rfl (by omega) (by decide) rfl (by simp) ?_ ?_ 0 () _ _ H0 (by omega) ⟨hR, .refl _ _⟩ (by simp [rNs, fillC, h5, h2]) (.refl _ _ _) h10
  · intro i _ l g H hi hP hh hf hI
    obtain ⟨hRd, hM⟩ := hP
    have k4 := hf.get 4 rfl h4 rfl
    simp only [Holds_cons, Holds_nil, and_true] at hh
    obtain ⟨H1, c1, r1, m1⟩ := rN_spec hRd 4611686018427387903
    have hsp := fill_set (cs := sn0) (vals := (rNs i s0).1.map nG) (o := 0) (i := i) (by rw [List.length_map, rNs_len]) (by simp; omega) (.int .i64 (rM (rNs i s0).2).1)
    rw [Nat.zero_add] at hsp
    have hix : gIx 16 (.int .i64 (i : Int)) = some i := by simp only [gIx]; rw [if_pos (by omega)]; simp
    have hmm : (rNs i s0).1.map nG ++ [.int .i64 (rM (rNs i s0).2).1] = (rNs (i + 1) s0).1.map nG := by simp [rNs]
    rw [hmm] at hsp
    have hfl := fill_len (cs := sn0) (vals := (rNs i s0).1.map nG) (o := 0) (i := i) (by rw [List.length_map, rNs_len]) (by simp; omega)
    simp [k4, hh.1, hh.2, hI, hix, c1, hsp, hfl]
    exact fun _ => ⟨r1, hM.trans m1⟩
  · intro a l g H' hP hh hf
    obtain ⟨hRd, hM⟩ := hP
    simp only [Holds_cons, Holds_nil, and_true] at hh
    exact he l g H' hRd hM hh.1 hh.2 hf
end Go.Proofs.YthmplnbogdfajaaGreatDoor
namespace Go.Proofs.YthmplnbogdfajaaGreatDoor
open Go.Sh
set_option maxRecDepth 100000
theorem clean_I (a b : Nat) : ∀ I : List IP, (∀ p ∈ I, IOk p) → ∃ I' : List IP, (I.map ipG).mapM (clean a b 97) = some (I'.map ipG) ∧ I'.map (·.1) = I.map (·.1) ∧ ∀ p ∈ I', IOk p
  | [], _ => ⟨[], rfl, rfl, by simp⟩
  | p :: I, h => by
    obtain ⟨I', h1, h2, h3⟩ := clean_I a b I (fun q hq => h q (by simp [hq]))
    obtain ⟨hx, hr, hL, hf, hd⟩ := h p (by simp)
    obtain ⟨d', d1, d2⟩ := clean_elems (a := a) (b := b) (n := 95) hd (fun x hx => by
      obtain ⟨e, _, rfl⟩ := List.mem_map.1 hx; rfl)
    refine ⟨(p.1, d') :: I', ?_, by simp [h2], ?_⟩
    · have : clean a b 97 (ipG p) = some (ipG (p.1, d')) := by
        show Option.map GV.agg (List.mapM (clean a b 96) (elC p.1.x ++ [p.2])) = _
        simp only [elC, List.cons_append, List.nil_append, List.mapM_cons, List.mapM_nil, d1, clean_int, clean_str]
        rfl
      rw [List.map_cons, List.mapM_cons, this, h1]; rfl
    · intro q hq
      rcases List.mem_cons.1 hq with rfl | hq
      · exact ⟨hx, hr, hL, hf, d2⟩
      · exact h3 q hq
theorem clean_ev (a b n : Nat) (e : Evt) : clean a b (n + 2) (evG e) = some (evG e) := by
  show Option.map GV.agg (List.mapM (clean a b (n + 1)) (evC e)) = _
  rw [clean_list]
  · rfl
  · intro x hx
    simp only [evC, evTl, elC, List.mem_cons, List.mem_append, List.mem_map, List.mem_nil_iff, or_false] at hx
    rcases hx with rfl | rfl | ⟨y, _, rfl⟩ | rfl | (rfl | rfl | rfl | rfl | rfl) | rfl | rfl | rfl <;> rfl
def pK (B : List Int) : List Int × RS := rNs 16 (B, false)
def pI (B : List Int) : List Itm × RS := rdRows rdI (pK B).2
def pV (B : List Int) : List Evt × RS × Bool := rdRowsO (pI B).2
def pCode (B : List Int) : Int :=
  if ((pV B).2.1.2 || !decide ((pV B).2.1.1 = [])) = true then 2
  else if ((pV B).2.2 || !rightB (pK B).1 (pI B).1 (pV B).1) = true then 1 else 0
end Go.Proofs.YthmplnbogdfajaaGreatDoor
namespace Go.Proofs.YthmplnbogdfajaaGreatDoor
open Go.Sh
set_option maxRecDepth 100000
theorem clean_sn {a b : Nat} {kv : List Int} {vi ve vi' ve' : GV} {c : Int} (h1 : clean a b 98 vi = some vi') (h2 : clean a b 98 ve = some ve') :
    clean a b 100 (.tup [.agg (snC kv vi ve), .int .i64 c]) = some (.tup [.agg (snC kv vi' ve'), .int .i64 c]) := by
  have e1 : (kv.map fun n => GV.int .i64 n).mapM (clean a b 98) = some (kv.map fun n => GV.int .i64 n) := clean_list _ _ _ _ fun x hx => by
    obtain ⟨n, _, rfl⟩ := List.mem_map.1 hx
    rfl
  have e : clean a b 99 (.agg (snC kv vi ve)) = some (.agg (snC kv vi' ve')) := by
    show Option.map GV.agg ((snC kv vi ve).mapM (clean a b 98)) = _
    unfold snC
    rw [List.mapM_append, e1]
    simp [h1, h2]
  show Option.map GV.tup (List.mapM (clean a b 99) [.agg (snC kv vi ve), .int .i64 c]) = _
  simp [e]
theorem snap_Parse {v : GV} {B : List Int} (hE : Elems 1 v (u8s B)) (hB : isB B) (hl : B.length ≤ 2 ^ 40) (H : GH) :
    ∃ (vi ve : GV) (I : List IP), ecall T f_x47 [v] H = some (.tup [.agg (snC (if pCode B = 0 then (pK B).1 else List.replicate 16 0) vi ve), .int .i64 (pCode B)], H) ∧ Elems 6 vi (I.map ipG) ∧ Elems 27 ve ((if pCode B = 0 then (pV B).1 else []).map evG) ∧ I.map (·.1) = (if pCode B = 0 then (pI B).1 else []) ∧ (∀ p ∈ I, IOk p) ∧ I.length ≤ 100000 ∧ (∀ e ∈ (pV B).1, EvFit e) ∧ (pV B).1.length ≤ 100000 := by
  obtain ⟨H1, c1, r1, m1⟩ := read_spec (H := H.over) hE hB hl (Nat.le_refl _)
  have hbt1 : H1.bt ≤ H1.toks.length := m1.btle (Nat.le_refl _)
  have key : optW (ecall T f_x47 [v] H) fun r => r.2 = H ∧ ∃ (vi ve : GV) (I : List IP), r.1 = .tup [.agg (snC (if pCode B = 0 then (pK B).1 else List.replicate 16 0) vi ve), .int .i64 (pCode B)] ∧ Elems 6 vi (I.map ipG) ∧ Elems 27 ve ((if pCode B = 0 then (pV B).1 else []).map evG) ∧ I.map (·.1) = (if pCode B = 0 then (pI B).1 else []) ∧ (∀ p ∈ I, IOk p) ∧ I.length ≤ 100000 ∧ (∀ e ∈ (pV B).1, EvFit e) ∧ (pV B).1.length ≤ 100000 := by
    rw [ecall_1 T_x47 rfl (by simp [F_x47]), wp_fin1]
    simp only [F_x47, b_x47]
    simp [elemsUnbox hE, hE.ok, c1]
    rw [wp_seqK, wp_blockK]
    refine parse_nums (s0 := (B, false)) r1 _ _ 1 _ (by simp) (by simp) (by simp) _ _ (by simp; exact ⟨rfl, rfl⟩) ?_
    intro l2 g2 H2 r2 m2 k5 k2 f2
    have k4 := f2.get 4 rfl (v := .ptr H.objs.length 0) (by simp) rfl
    have hbt2 := m2.btle hbt1
    have hbo1 : H1.bo = H.objs.length := m1.bo
    have hbo2 : H2.bo = H.objs.length := by rw [m2.bo]; exact hbo1
    have hle2 : H2.bo ≤ H2.objs.length := by rw [hbo2]; exact Nat.le_trans m1.olen m2.olen
    obtain ⟨vi, H3, I, c3, e3, i3, ok3, n3, r3, m3⟩ := rowsI r2 hbt2 hle2
    have hbt3 := m3.btle hbt2
    have hone := e3.one
    have hfl := fill_len (cs := sn0) (vals := (pK B).1.map nG) (o := 0) (i := 16) (by rw [List.length_map]; exact rNs_len _ _) (by simp)
    have hF : fillC sn0 ((pK B).1.map nG) 0 16 = snC (pK B).1 .nilsl .nilsl := by simp [fillC, snC]
    have hkl : (pK B).1.length = 16 := rNs_len _ _
    have k5' : lget l2 5 = .lbox 1 (snC (pK B).1 .nilsl .nilsl) := by rw [k5]; exact congrArg _ hF
    have hs16 : setPart (snC (pK B).1 .nilsl .nilsl) 16 [vi] = some (snC (pK B).1 vi .nilsl) := by simp [setPart, snC, hkl, List.take_append, List.drop_append, List.take_of_length_le, List.drop_of_length_le]
    have hcel := e3.cells
    simp only [GH.over_objs] at c3
    have hbo3 : H3.bo ≤ H3.objs.length := by rw [m3.bo]; exact Nat.le_trans hle2 m3.olen
    have mn := Mods.new (fun _ => False) H3 (.cells 4 [.bool false])
    have hln : (H3.newObj (.cells 4 [.bool false])).objs[H3.objs.length]? = some (.cells 4 [.bool false]) := by simp [GH.newObj]
    have mset := Mods.set (H3.newObj (.cells 4 [.bool false])) H3.objs.length (.cells 4 [.bool false])
    have r3' := Rd.mods (Rd.mods r3 mn (by simp)) mset (fun e => by have := r3.lt; omega)
    have hln' := obj_set (o' := .cells 4 [.bool false]) hln
    obtain ⟨ve, H4, c4, e4, f4, n4, r4, o4, m4⟩ := rowsV r3' (mset.btle (mn.btle hbt3)) (by rw [mset.bo, mn.bo]; exact Nat.le_trans hbo3 (Nat.le_trans mn.olen mset.olen)) (fun e => by have := r3.lt; omega) hln' (by rw [mset.bo, mn.bo]; exact hbo3)
    have hbn : (H3.newObj (.cells 4 [.bool false])).bo ≤ H3.objs.length := hbo3
    simp only [GH.over_objs] at c4
    have hsb : setPart [GV.bool false] 0 [.bool false] = some [.bool false] := rfl
    have hsn := sn_len hkl vi .nilsl
    have hs17 : setPart (snC (pK B).1 vi .nilsl) 17 [ve] = some (snC (pK B).1 vi ve) := by simp [setPart, snC, hkl, List.take_append, List.drop_append, List.take_of_length_le, List.drop_of_length_le]
    simp [k4, k5', c3, e3.ok, hone, hcel, hs16, hln, hbn, hsb, c4, e4.ok, e4.one, e4.cells, hs17]
    have hdone := done_spec r4
    simp only [GH.over_objs] at hdone
    have hVs : (rdRowsO (rdRows rdI (pK B).2).2) = pV B := rfl
    cases hd : (!(pV B).2.1.2 && decide ((pV B).2.1.1 = [])) with
    | false =>
      have hd' : (!(rdRowsO (rdRows rdI (rNs 16 (B, false)).2).2).2.1.2 && decide ((rdRowsO (rdRows rdI (rNs 16 (B, false)).2).2).2.1.1 = [])) = false := hd
      rw [hd'] at hdone
      have hcode : pCode B = 2 := by unfold pCode; rw [if_pos (by rw [← Bool.not_eq_true] at hd; revert hd; cases (pV B).2.1.2 <;> simp)]
      simp [hdone, k2, gFill, setPart]
      have hcl : clean H.objs.length H.toks.length 100 (.tup [.agg sn0, .int .i64 2]) = some (.tup [.agg sn0, .int .i64 2]) := rfl
      simp only [sn0] at hcl
      simp [hcl, hcode]
      exact ⟨.nilsl, .nilsl, rfl, [], .nil, .nil, rfl, by simp, by simp, f4, n4⟩
    | true =>
      have hd' : (!(rdRowsO (rdRows rdI (rNs 16 (B, false)).2).2).2.1.2 && decide ((rdRowsO (rdRows rdI (rNs 16 (B, false)).2).2).2.1.1 = [])) = true := hd
      rw [hd'] at hdone
      have hsr := fun H => snap_Right (pK B).1 hkl I n3 ok3 (pV B).1 n4 f4 vi ve e3 e4 H
      rw [i3] at hsr
      have hsn2 := sn_len hkl vi ve
      have hs18 : List.take 18 (snC (pK B).1 vi ve) = snC (pK B).1 vi ve := List.take_of_length_le (by rw [hsn2]; exact Nat.le_refl _)
      cases hodd : (rdRowsO (rdRows rdI (rNs 16 (B, false)).2).2).2.2 with
      | true =>
        have hcode : pCode B = 1 := by
          have hv : (pV B).2.2 = true := hodd
          unfold pCode
          rw [if_neg (by revert hd; cases (pV B).2.1.2 <;> simp), if_pos (by rw [hv]; rfl)]
        have hcl : clean H.objs.length H.toks.length 100 (.tup [.agg sn0, .int .i64 1]) = some (.tup [.agg sn0, .int .i64 1]) := rfl
        have hs0 : setPart sn0 0 sn0 = some sn0 := rfl
        simp only [sn0] at hcl hs0
        simp [hdone, k2, gFill, o4, hodd, hs18, hsn2, hs0, hcl, hcode]
        exact ⟨.nilsl, .nilsl, rfl, [], .nil, .nil, rfl, by simp, by simp, f4, n4⟩
      | false =>
        rw [hodd] at o4
        have hv : (pV B).2.2 = false := hodd
        cases hrb : rightB (pK B).1 (pI B).1 (pV B).1 with
        | false =>
          have hcode : pCode B = 1 := by
            unfold pCode
            rw [if_neg (by revert hd; cases (pV B).2.1.2 <;> simp), if_pos (by rw [hv, hrb]; rfl)]
          have hrb' : rightB (pK B).1 (rdRows rdI (rNs 16 (B, false)).2).1 (pV B).1 = false := hrb
          rw [hrb'] at hsr
          have hcl : clean H.objs.length H.toks.length 100 (.tup [.agg sn0, .int .i64 1]) = some (.tup [.agg sn0, .int .i64 1]) := rfl
          have hs0 : setPart sn0 0 sn0 = some sn0 := rfl
          simp only [sn0] at hcl hs0
          simp [hdone, k2, gFill, o4, hodd, hs18, hsn2, hsr, hs0, hcl, hcode]
          exact ⟨.nilsl, .nilsl, rfl, [], .nil, .nil, rfl, by simp, by simp, f4, n4⟩
        | true =>
          have hcode : pCode B = 0 := by
            unfold pCode
            rw [if_neg (by revert hd; cases (pV B).2.1.2 <;> simp), if_neg (by rw [hv, hrb]; simp)]
          have hrb' : rightB (pK B).1 (rdRows rdI (rNs 16 (B, false)).2).1 (pV B).1 = true := hrb
          rw [hrb'] at hsr
          have hs0 : setPart sn0 0 (snC (pK B).1 vi ve) = some (snC (pK B).1 vi ve) := by simp only [setPart, hsn2]; simp [hsn2]
          simp only [sn0] at hs0
          have hon : (snC (pK B).1 vi ve).all GV.one = true := by simp [snC, e3.one, e4.one]
          simp [hdone, k2, gFill, o4, hodd, hs18, hsn2, hsr, hs0, hon, hcode]
          obtain ⟨I', hc1, hc2, hc3⟩ := clean_I H.objs.length H.toks.length I ok3
          obtain ⟨vi', hc4, hc5⟩ := clean_sl (n := 97) e3 hc1
          obtain ⟨ve', hc6, hc7⟩ := clean_elems (a := H.objs.length) (b := H.toks.length) (n := 97) e4 (fun x hx => by
            obtain ⟨e, _, rfl⟩ := List.mem_map.1 hx
            exact clean_ev _ _ 95 e)
          rw [clean_sn hc4 hc6]
          simp
          refine ⟨vi', ve', rfl, I', hc5, hc7, by rw [hc2]; exact i3, fun a b h => hc3 _ h, ?_, f4, n4⟩
          have := congrArg List.length hc2
          simp only [List.length_map] at this
          omega
  obtain ⟨r, h1, h2, vi, ve, I, h3, h4, h5, h6, h7, h8, h9, h10⟩ := key
  obtain ⟨v', H'⟩ := r
  simp only at h2 h3
  subst h2 h3
  exact ⟨vi, ve, I, h1, h4, h5, h6, h7, h8, h9, h10⟩
end Go.Proofs.YthmplnbogdfajaaGreatDoor
