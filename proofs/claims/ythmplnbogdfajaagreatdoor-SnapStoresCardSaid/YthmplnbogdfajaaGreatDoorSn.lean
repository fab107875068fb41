/- Own work: the shadow machine and what it shows, part Sn. -/
import Derived.Test.YthmplnbogdfajaaGreatDoorCo
set_option linter.all false
namespace Go.Proofs.YthmplnbogdfajaaGreatDoor
open Go.Sh
set_option maxRecDepth 100000
abbrev unk (id : Nat) : GV := .func f_x54 [] [.ptr id 0]
theorem item_unknown {H : GH} {id t : Nat} {kv : List Int} (hk : kv.length = 16) (ho : H.objs[id]? = some (.cells t (kv.map fun n => GV.int .i64 n))) (e : Ent) :
    ecall T f_x54 [entG e, .ptr id 0] H = some (.bool (!knowsB kv e.r e.c), H) := by
  have hn := fun H => vector_Knows kv hk e.r e.c H
  have ht : List.take 16 (kv.map fun n => GV.int .i64 n) = kv.map fun n => GV.int .i64 n := List.take_of_length_le (by simp [hk])
  simp only [vecG] at hn
  apply optW.eq
  rw [ecall_0 T_x54 rfl (by simp [F_x54]), wp_fin1]
  simp [F_x54, b_x54, entG, entC, ho, hk, ht, hn]
theorem index_unknown {H : GH} {id t : Nat} {kv : List Int} (hk : kv.length = 16) (ho : H.objs[id]? = some (.cells t (kv.map fun n => GV.int .i64 n))) (L : List Ent) (hL : L.length ≤ 100000) (v : GV) (hv : Elems 5 v (L.map entG)) :
    ∃ z : Int, ecall T f_x43 [v, unk id] H = some (.int .i64 z, H) ∧ (0 ≤ z ↔ L.any (fun e => !knowsB kv e.r e.c) = true) := by
  have hl := hv.len
  have hu := elemsUnbox hv
  have hok := hv.ok
  have key : optW (ecall T f_x43 [v, unk id] H) fun r => ∃ z : Int, r = (.int .i64 z, H) ∧ (0 ≤ z ↔ L.any (fun e => !knowsB kv e.r e.c) = true) := by
    rw [ecall_0 T_x43 rfl (by simp [F_x43]), wp_fin1]
    simp only [F_x43, b_x43]
    simp [hl, hu]
    rw [wp_seqK, wp_blockK]
    refine range_loop (T := T) (n := L.length) (A := Unit) (fun _ _ => []) (fun i _ _ H' => H' = H ∧ (L.take i).any (fun e => !knowsB kv e.r e.c) = false) (c := 9) (b := 0) (I := 8) (N := 7) (d := 18) rfl (by omega) (by decide) ⟨rfl, rfl⟩ (by simp) ?_ ?_ 0 () _ _ H (by omega) ⟨rfl, by simp⟩ trivial (.refl _ _ _) (by simp) (by simp)
    · intro i a l g H' hi ⟨hH, hall⟩ hh hf hI
      subst hH
      have h0 := hf.get 0 rfl (v := v) (by simp [hu]) (by simp [hv.boxy])
      have h1 := hf.get 1 rfl (v := unk id) (by simp) rfl
      obtain ⟨lt, ix, opt, get, ⟨t, sl⟩, wr_, mem⟩ := at_ok (e := entG) hv hi (by omega)
      generalize L[i]'hi = e at opt get mem
      have htake : L.take (i + 1) = L.take i ++ [e] := by rw [List.take_add_one, opt]; rfl
      have hit := item_unknown hk ho e
      simp only [entG, entC] at hit
      rw [sl] at h0
      cases hb : knowsB kv e.r e.c with
      | false =>
        rw [hb] at hit
        have : L.any (fun e => !knowsB kv e.r e.c) = true := List.any_eq_true.2 ⟨e, mem, by simp [hb]⟩
        simp [h0, h1, hI, ix, opt, get, entC, hit]
        exact fun _ => ⟨e, mem, hb⟩
      | true =>
        rw [hb] at hit
        have hall' : (L.take (i + 1)).any (fun e => !knowsB kv e.r e.c) = false := by rw [htake, List.any_append, hall]; simp [hb]
        simp [h0, h1, hI, ix, opt, get, entC, hit]
        exact fun _ => by simpa using hall'
    · intro a l g H' ⟨hH, hall⟩ hh hf
      subst hH
      rw [List.take_length] at hall
      simp [hall]
      simpa using hall
  obtain ⟨r, h, z, rfl, hz⟩ := key
  exact ⟨z, h, hz⟩
theorem contains_unknown {H : GH} {id t : Nat} {kv : List Int} (hk : kv.length = 16) (ho : H.objs[id]? = some (.cells t (kv.map fun n => GV.int .i64 n))) (L : List Ent) (hL : L.length ≤ 100000) (v : GV) (hv : Elems 5 v (L.map entG)) :
    ecall T f_x38 [v, unk id] H = some (.bool (L.any (fun e => !knowsB kv e.r e.c)), H) := by
  obtain ⟨z, hz, hz2⟩ := index_unknown hk ho L hL v hv
  have hu := elemsUnbox hv
  have hok := hv.ok
  apply optW.eq
  rw [ecall_0 T_x38 rfl (by simp [F_x38]), wp_fin1]
  by_cases h0 : 0 ≤ z
  · have := hz2.1 h0
    simp [F_x38, b_x38, hz, hu, hok, h0, this]
  · have : L.any (fun e => !knowsB kv e.r e.c) = false := by
      rw [Bool.eq_false_iff]; exact fun h => h0 (hz2.2 h)
    simp [F_x38, b_x38, hz, hu, hok, h0, this]
def itemB (kv : List Int) (x : El) (L : List Ent) : Bool := decide (0 < L.length) && (okPutB x L && L.all (fun e => knowsB kv e.r e.c))
theorem any_not (kv : List Int) (L : List Ent) : (!L.any (fun e => !knowsB kv e.r e.c)) = L.all (fun e => knowsB kv e.r e.c) := by
  rw [Bool.eq_iff_iff]; simp
set_option maxHeartbeats 1000000 in
theorem snap_item (kv : List Int) (hk : kv.length = 16) (x : El) (hx : ElFit x) (hr : ElRange x) (L : List Ent) (hL : L.length ≤ 100000) (hfit : ∀ e ∈ L, EntFit e) (v : GV) (hv : Elems 5 v (L.map entG)) (H : GH) :
    ecall T f_x53 [vecG kv, .agg (itemC x v)] H = some (.bool (itemB kv x L), H) := by
  have hl := hv.len
  have hu := elemsUnbox hv
  have hok := hv.ok
  have hone := hv.one
  have hcel := hv.cells
  apply optW.eq
  rw [ecall_1 T_x53 rfl (by simp [F_x53]), wp_fin1]
  simp only [F_x53, b_x53]
  unfold itemB
  by_cases h0 : 0 < L.length
  · have h0' : (0 : Int) < L.length := by omega
    have hnew := store_New { H.over with objs := H.objs ++ [.cells 28 (kv.map fun n => GV.int .i64 n)] }
    obtain ⟨H2, hput, hcase⟩ := store_Put (H := { H.over with objs := H.objs ++ [.cells 28 (kv.map fun n => GV.int .i64 n)] ++ [.map true kLs [], .cells 75 [.map (H.objs.length + 1)]] }) (s := H.objs.length + 1 + 1) (m := H.objs.length + 1) (es := []) ⟨by show (H.objs ++ _ ++ _)[_]? = _; rw [List.append_assoc, List.getElem?_append_right (by omega), show H.objs.length + 1 + 1 - H.objs.length = 2 by omega]; rfl, by show (H.objs ++ _ ++ _)[_]? = _; rw [List.append_assoc, List.getElem?_append_right (by omega), show H.objs.length + 1 - H.objs.length = 1 by omega]; rfl, by simp [GH.over]⟩ x hx hr L hL hfit v hv (by simp [GH.over]) (by simp [GH.over])
    simp only [itemC, elC, List.cons_append, List.nil_append] at hput
    simp at hnew
    have e2 : ({ H.over with objs := H.objs ++ [.cells 28 (kv.map fun n => GV.int .i64 n)] ++ [.map true kLs [], .cells 75 [.map (H.objs.length + 1)]] } : GH) = { objs := H.objs ++ [.cells 28 (kv.map fun n => GV.int .i64 n), .map true kLs [], .cells 75 [.map (H.objs.length + 1)]], toks := H.over.toks, bo := H.over.bo, bt := H.over.bt } := by simp
    rw [e2, GH.over_toks] at hput
    rcases hcase with ⟨hb, _⟩ | ⟨hb, v', hv', hH2⟩
    · rw [hb] at hput ⊢
      simp [vecG, itemC, elC, GH.newObj, hl, hu, hok, h0, h0', hnew, hput]
    · rw [hb] at hput ⊢
      have hobj : H2.objs[H.objs.length]? = some (.cells 28 (kv.map fun n => GV.int .i64 n)) := by
        rw [hH2]
        show ((killH L _).objs.set _ _)[_]? = _
        rw [List.getElem?_set_ne (by omega)]
        refine (killH_more L _).get ?_
        show (H.objs ++ _ ++ _)[_]? = _
        rw [List.append_assoc, List.getElem?_append_right (Nat.le_refl _), Nat.sub_self]; rfl
      have hcon := contains_unknown hk hobj L hL v hv
      have hany := any_not kv L
      simp [vecG, itemC, elC, GH.newObj, hl, hu, hok, h0, h0', hnew, hput, hcon]
      rw [← hany]; simp
  · have h0' : ¬ (0 : Int) < L.length := by omega
    simp [vecG, itemC, elC, GH.newObj, hl, hu, hok, h0, h0']
end Go.Proofs.YthmplnbogdfajaaGreatDoor
namespace Go.Proofs.YthmplnbogdfajaaGreatDoor
open Go.Sh
set_option maxRecDepth 100000
structure Itm where
  x : El
  L : List Ent
instance : Inhabited El := ⟨⟨0, [], [], [], []⟩⟩
instance : Inhabited Itm := ⟨⟨default, []⟩⟩
abbrev IP := Itm × GV
abbrev ipG (p : IP) : GV := .agg (itemC p.1.x p.2)
structure IOk (p : IP) : Prop where
  x : ElFit p.1.x
  r : ElRange p.1.x
  L : p.1.L.length ≤ 100000
  fit : ∀ e ∈ p.1.L, EntFit e
  el : Elems 5 p.2 (p.1.L.map entG)
def snC (kv : List Int) (vi ve : GV) : List GV := (kv.map fun n => GV.int .i64 n) ++ [vi, ve]
section
variable {kv : List Int} (hk : kv.length = 16) (vi ve : GV)
include hk
theorem sn_len : (snC kv vi ve).length = 18 := by simp [snC, hk]
theorem sn_take : List.take 16 (snC kv vi ve) = kv.map fun n => GV.int .i64 n := by
  unfold snC; rw [List.take_left' (by simp [hk])]
theorem sn_16 : (snC kv vi ve)[16]? = some vi := by
  unfold snC; rw [List.getElem?_append_right (by simp [hk])]; simp [hk]
theorem sn_17 : (snC kv vi ve)[17]? = some ve := by
  unfold snC; rw [List.getElem?_append_right (by simp [hk])]; simp [hk]
theorem sn_16' : ∀ h : 16 < (snC kv vi ve).length, (snC kv vi ve)[16]'h = vi := fun h => by
  have := sn_16 hk vi ve
  rw [List.getElem?_eq_getElem h] at this
  exact Option.some.inj this
theorem sn_17' : ∀ h : 17 < (snC kv vi ve).length, (snC kv vi ve)[17]'h = ve := fun h => by
  have := sn_17 hk vi ve
  rw [List.getElem?_eq_getElem h] at this
  exact Option.some.inj this
end
def itAt (kv : List Int) (I : List Itm) (k : Nat) : Bool := itemB kv (I.getD k default).x (I.getD k default).L && (decide (k = 0) || decide (ordE (I.getD (k - 1) default).x (I.getD k default).x < 0))
def evAt (kv : List Int) (e : Evt) : Bool := evB e && knowsB kv e.r e.c
def rightB (kv : List Int) (I : List Itm) (E : List Evt) : Bool := vecB kv && ((List.range I.length).all (itAt kv I) && E.all (evAt kv))
theorem right_items (kv : List Int) (hk : kv.length = 16) (I : List IP) (hI : I.length ≤ 100000) (hok : ∀ p ∈ I, IOk p) (vi ve : GV) (hvi : Elems 6 vi (I.map ipG)) (l0 : List GV) (g0 : Nat) (H0 : GH) (K : GExit × St → Prop)
    (h24 : lget l0 24 = vi) (h25 : lget l0 25 = .int .i64 I.length) (h26 : lget l0 26 = .int .i64 0) (g1 : Nat) (h1 : lget l0 1 = .lbox g1 (snC kv vi ve))
    (he : ∀ l g, (List.range I.length).all (itAt kv (I.map (·.1))) = true → lget l 1 = .lbox g1 (snC kv vi ve) → Fr L0_x49 l0 l → K (.exit 0, ⟨⟨l, g⟩, H0⟩))
    (hr : ∀ l g, (List.range I.length).all (itAt kv (I.map (·.1))) = false → lget l 2 = .int .i64 1 → K (.ret, ⟨⟨l, g⟩, H0⟩)) :
    optW (erun T (.loop L0_x49) ⟨⟨l0, g0⟩, H0⟩) K := by
  have s16 := sn_16 hk vi ve
  have s16' := sn_16' hk vi ve
  have st := sn_take hk vi ve
  have sl := sn_len hk vi ve
  refine range_loop (T := T) (n := I.length) (A := Unit) (fun _ _ => [(1, .lbox g1 (snC kv vi ve))]) (fun i _ _ H' => H' = H0 ∧ (List.range i).all (itAt kv (I.map (·.1))) = true) (c := 27) (b := 0) (I := 26) (N := 25) (d := 53) rfl (by omega) (by decide) ⟨rfl, rfl⟩ (by simp) ?_ ?_ 0 () _ _ H0 (by omega) ⟨rfl, rfl⟩ (by simp [h1]) (.refl _ _ _) h26 h25
  · intro i a l g H' hi ⟨hH, hall⟩ hh hf hIx
    subst hH
    have h24' := hf.get 24 rfl h24 (by simp [hvi.boxy])
    obtain ⟨lt, ix, opt, get, ⟨t, sv⟩, wr_, mem⟩ := at_ok (e := ipG) hvi hi (by omega)
    generalize I[i]'hi = p at opt get mem
    have hp := hok p mem
    have hgd : (I.map (·.1)).getD i default = p.1 := by simp [List.getD, opt]
    obtain ⟨hx, hrg, hL, hfit, hel⟩ := hp
    have hit := fun H => snap_item kv hk p.1.x hx hrg p.1.L hL hfit p.2 hel H
    simp only [vecG, itemC, elC, List.cons_append, List.nil_append] at hit
    simp only [Holds_cons, Holds_nil, and_true] at hh
    have hbad : itAt kv (I.map (·.1)) i = false → (List.range I.length).all (itAt kv (I.map (·.1))) = false := fun h => by
      rw [Bool.eq_false_iff]; intro h'
      rw [List.all_eq_true.1 h' i (List.mem_range.2 hi)] at h; cases h
    have hone := hel.one
    have hcel := hel.cells
    rw [sv] at h24'
    cases hb : itemB kv p.1.x p.1.L with
    | false =>
      rw [hb] at hit
      have hno := hbad (by simp only [itAt, hgd, hb, Bool.false_and])
      simp [h24', hIx, hh, ix, opt, get, itemC, elC, setPart, hone, sl, st, hit]
      exact fun _ => hr _ _ hno (by simp)
    | true =>
      rw [hb] at hit
      rcases Nat.eq_zero_or_pos i with rfl | hpos
      · have hk0 : itAt kv (I.map (·.1)) 0 = true := by simp only [itAt, hgd, hb]; rfl
        simp at hIx ix
        simp [h24', hIx, hh, ix, opt, get, itemC, elC, setPart, hone, sl, st, hit]
        exact fun _ => by simpa using hk0
      · have hi1 : i - 1 < I.length := by omega
        obtain ⟨lt1, ix1, opt1, get1, _, _, _⟩ := at_ok (e := ipG) hvi hi1 (by omega)
        generalize I[i - 1]'hi1 = q at opt1 get1
        have hgd1 : (I.map (·.1)).getD (i - 1) default = q.1 := by simp [List.getD, opt1]
        have hw : IntKind.i64.wrap ((i : Int) - 1) = ((i - 1 : Nat) : Int) := by rw [wrap_i64' (by omega) (by omega)]; omega
        have hor := fun H => store_Order q.1.x p.1.x H
        simp only [elC] at hor
        have hpi : (0 : Int) < i := by omega
        have hko : itAt kv (I.map (·.1)) i = decide (ordE q.1.x p.1.x < 0) := by
          have : i ≠ 0 := by omega
          simp only [itAt, hgd, hgd1, hb, this, decide_false, Bool.false_or, Bool.true_and]
        subst sv
        by_cases hord : ordE q.1.x p.1.x < 0
        · have hge : ¬ (0 ≤ ordE q.1.x p.1.x) := by omega
          have hk1 : itAt kv (I.map (·.1)) i = true := by rw [hko]; simpa using hord
          have hall' : (List.range (i + 1)).all (itAt kv (I.map (·.1))) = true := by rw [range_all_succ, hall, hk1]; rfl
          simp [h24', hIx, hh, ix, opt, get, itemC, elC, setPart, hone, sl, st, hit, hpi, hpos, hw, s16, s16', ix1, opt1, get1, hor, hge]
          exact fun _ => by simpa using hall'
        · have hge : 0 ≤ ordE q.1.x p.1.x := by omega
          have hno := hbad (by rw [hko]; simpa using hge)
          simp [h24', hIx, hh, ix, opt, get, itemC, elC, setPart, hone, sl, st, hit, hpi, hpos, hw, s16, s16', ix1, opt1, get1, hor, hge]
          exact fun _ => hr _ _ hno (by simp)
  · intro a l g H' ⟨hH, hall⟩ hh hf
    subst hH
    simp only [Holds_cons, Holds_nil, and_true] at hh
    exact he l g hall hh hf
theorem right_events (kv : List Int) (hk : kv.length = 16) (E : List Evt) (hE : E.length ≤ 100000) (hok : ∀ e ∈ E, EvFit e) (vi ve : GV) (hve : Elems 27 ve (E.map evG)) (l0 : List GV) (g0 : Nat) (H0 : GH) (K : GExit × St → Prop)
    (h55 : lget l0 55 = ve) (h56 : lget l0 56 = .int .i64 E.length) (h57 : lget l0 57 = .int .i64 0) (g1 : Nat) (h1 : lget l0 1 = .lbox g1 (snC kv vi ve))
    (he : ∀ l g, E.all (evAt kv) = true → K (.exit 2, ⟨⟨l, g⟩, H0⟩))
    (hr : ∀ l g, E.all (evAt kv) = false → lget l 2 = .int .i64 1 → K (.ret, ⟨⟨l, g⟩, H0⟩)) :
    optW (erun T (.loop L1_x49) ⟨⟨l0, g0⟩, H0⟩) K := by
  have st := sn_take hk vi ve
  have sl := sn_len hk vi ve
  refine range_loop (T := T) (n := E.length) (A := Unit) (fun _ _ => [(1, .lbox g1 (snC kv vi ve))]) (fun i _ _ H' => H' = H0 ∧ (E.take i).all (evAt kv) = true) (c := 58) (b := 2) (I := 57) (N := 56) (d := 72) rfl (by omega) (by decide) ⟨rfl, rfl⟩ (by simp) ?_ ?_ 0 () _ _ H0 (by omega) ⟨rfl, rfl⟩ (by simp [h1]) (.refl _ _ _) h57 h56
  · intro i a l g H' hi ⟨hH, hall⟩ hh hf hIx
    subst hH
    have h55' := hf.get 55 rfl h55 (by simp [hve.boxy])
    obtain ⟨lt, ix, opt, get, ⟨t, sv⟩, wr_, mem⟩ := at_ok (e := evG) hve hi (by omega)
    generalize E[i]'hi = e at opt get mem
    have hfe := hok e mem
    have hev := fun H => event_Right e hfe H
    have hkn := fun H => vector_Knows kv hk e.r e.c H
    simp only [vecG] at hkn
    simp only [Holds_cons, Holds_nil, and_true] at hh
    have l1 := ev_len hfe.past
    have l3 := ev_dot e
    have l4 : List.take 27 (evC e) = evC e := List.take_of_length_le (by rw [l1]; exact Nat.le_refl _)
    have lo := ev_one hfe.past
    have sp : setPart [GV.int .i64 0, .int .i64 0, .int .i64 0, .int .i64 0, .int .i64 0, .int .i64 0, .int .i64 0, .int .i64 0, .int .i64 0, .int .i64 0, .int .i64 0, .int .i64 0, .int .i64 0, .int .i64 0, .int .i64 0, .int .i64 0, .int .i64 0, .int .i64 0, .int .i64 0, .int .i64 0, .str ⟨#[]⟩, .str ⟨#[]⟩, .str ⟨#[]⟩, .str ⟨#[]⟩, .int .i64 0, .int .i64 0, .str ⟨#[]⟩] 0 (evC e) = some (evC e) := by
      simp only [setPart, l1]; simp
    have htake : E.take (i + 1) = E.take i ++ [e] := by rw [List.take_add_one, opt]; rfl
    have hbad : evAt kv e = false → E.all (evAt kv) = false := fun h => by
      rw [Bool.eq_false_iff]; intro h'
      rw [List.all_eq_true.1 h' e mem] at h; cases h
    rw [sv] at h55'
    cases hb : evB e with
    | false =>
      rw [hb] at hev
      have hno := hbad (by simp [evAt, hb])
      simp [h55', hIx, hh, ix, opt, get, sp, l1, l4, lo, hev]
      exact fun _ => hr _ _ hno (by simp)
    | true =>
      rw [hb] at hev
      cases hb2 : knowsB kv e.r e.c with
      | false =>
        rw [hb2] at hkn
        have hno := hbad (by simp [evAt, hb2])
        simp [h55', hIx, hh, ix, opt, get, sp, l1, l3, l4, lo, hev, sl, st, hkn]
        exact fun _ => hr _ _ hno (by simp)
      | true =>
        rw [hb2] at hkn
        have hall' : (E.take (i + 1)).all (evAt kv) = true := by rw [htake, List.all_append, hall]; simp [evAt, hb, hb2]
        simp [h55', hIx, hh, ix, opt, get, sp, l1, l3, l4, lo, hev, sl, st, hkn]
        exact fun _ => by simpa using hall'
  · intro a l g H' ⟨hH, hall⟩ hh hf
    subst hH
    rw [List.take_length] at hall
    exact he l g hall
theorem snap_Right (kv : List Int) (hk : kv.length = 16) (I : List IP) (hI : I.length ≤ 100000) (hok : ∀ p ∈ I, IOk p) (E : List Evt) (hE : E.length ≤ 100000) (hoke : ∀ e ∈ E, EvFit e) (vi ve : GV) (hvi : Elems 6 vi (I.map ipG)) (hve : Elems 27 ve (E.map evG)) (H : GH) :
    ecall T f_x49 [.agg (snC kv vi ve)] H = some (.int .i64 (if rightB kv (I.map (·.1)) E then 0 else 1), H) := by
  have s16 := sn_16 hk vi ve
  have s16' := sn_16' hk vi ve
  have s17 := sn_17 hk vi ve
  have s17' := sn_17' hk vi ve
  have st := sn_take hk vi ve
  have sl := sn_len hk vi ve
  have li := hvi.len
  have ui := elemsUnbox hvi
  have le := hve.len
  have ue := elemsUnbox hve
  have oi := hvi.ok
  have oe := hve.ok
  have hv := fun H => vector_Right kv hk H
  simp only [vecG] at hv
  have n1 : ¬ (100000 : Int) < I.length := by omega
  have n2 : ¬ (100000 : Int) < E.length := by omega
  have n1' : ¬ 100000 < I.length := by omega
  have n2' : ¬ 100000 < E.length := by omega
  apply optW.eq
  rw [ecall_0 T_x49 rfl (by simp [F_x49]), wp_fin1]
  simp only [F_x49, b_x49]
  cases hb : vecB kv with
  | false =>
    rw [hb] at hv
    have hR : rightB kv (I.map (·.1)) E = false := by simp [rightB, hb]
    simp [sl, st, hv, hR]
  | true =>
    rw [hb] at hv
    simp [sl, st, hv, s16, s16', s17, s17', li, ui, le, ue, oi, oe, n1, n2, n1', n2']
    rw [wp_seqK, wp_blockK]
    refine right_items kv hk I hI hok vi ve hvi _ _ H _ (by simp [ui]) (by simp) (by simp) _ (by simp; rfl) ?_ ?_
    · intro l g hall h1 hf
      simp [h1, sl, s17, s17', le, ue]
      rw [wp_seqK, wp_blockK]
      refine right_events kv hk E hE hoke vi ve hve _ _ H _ (by simp [ue]) (by simp) (by simp) _ (by simp [h1]; rfl) ?_ ?_
      · intro l2 g2 h2
        have hR : rightB kv (I.map (·.1)) E = true := by simp only [rightB, hb, h2, List.length_map, hall]; rfl
        simp [hR]
      · intro l2 g2 h2 h3
        have hR : rightB kv (I.map (·.1)) E = false := by simp only [rightB, h2, Bool.and_false]
        simp [hR, h3]
    · intro l g hall h2
      have hR : rightB kv (I.map (·.1)) E = false := by simp only [rightB, List.length_map, hall, Bool.false_and, Bool.and_false]
      simp [hR, h2]
end Go.Proofs.YthmplnbogdfajaaGreatDoor
