/- Own work: the shadow machine and what it shows, part Ss. -/
import Derived.Test.YthmplnbogdfajaaGreatDoorLa
import Derived.Test.YthmplnbogdfajaaGreatDoorLv
import Derived.Test.YthmplnbogdfajaaGreatDoorRowA
set_option linter.all false
namespace Go.Proofs.YthmplnbogdfajaaGreatDoor
open Go.Sh
set_option maxHeartbeats 4000000
set_option maxRecDepth 100000
def toIt (p : Stp) : Itm := ⟨p.1, p.2⟩
def toIP (p : Stp) : IP := (toIt p, .sl 5 (p.2.map entG) .imm)
theorem toIP_G (A : List Stp) : (A.map toIP).map ipG = A.map itG := by rw [List.map_map]; rfl
theorem toIP_1 (A : List Stp) : (A.map toIP).map (·.1) = A.map toIt := by rw [List.map_map]; rfl
theorem setAll_vec : ∀ {l : List Evt} {v : List Int}, v.length = 16 → (∀ n ∈ v, 0 ≤ n ∧ n ≤ 1048576) → Causl v l → ∀ n ∈ setAll v l, 0 ≤ n ∧ n ≤ 1048576
  | [], v, _, h, _ => h
  | e :: l, v, hv, h, hc => by
    obtain ⟨hf, hc⟩ := hc
    obtain ⟨hb, _, _⟩ := fits_iff hf
    obtain ⟨r0, r1, c0, c1⟩ := evB_dot hb
    refine setAll_vec (v := setV v e) (by simp [setV, hv]) (fun n hn => ?_) hc
    rcases List.mem_or_eq_of_mem_set hn with hn | hn
    · exact h n hn
    · omega
theorem sort_rise {S : List Stp} (hp : Apart S) : (sortS S).Pairwise fun p q => ordE p.1 q.1 < 0 := by
  have h1 := isort_sorted cfS_swo S
  have h2 : ((sortS S).map (fun p => p.1)).Nodup := by
    have hp' : (S.map (fun p => p.1)).Nodup := hp
    exact ((sortS_perm S).map (fun p => p.1)).nodup_iff.2 hp'
  have h3 : (sortS S).Pairwise fun p q => p.1 ≠ q.1 := List.pairwise_map.1 h2
  refine (h1.and h3).imp fun {a b} h => ?_
  have h4 : ¬ ordE b.1 a.1 < 0 := of_decide_eq_false h.1
  have h5 := ordE_ok.swap a.1 b.1
  have h6 : ordE a.1 b.1 ≠ 0 := fun e => h.2 (ordE_ok.zero _ _ e)
  omega
theorem snap_right {R : List Evt} (h : Row R) {H : GH} {s m : Nat} (hS : Sto H s m (doAll R)) : rightB (setAll zero16 R) ((sortS (doAll R)).map toIt) R = true := by
  have hg := h.good
  obtain ⟨_, hup⟩ := causl_up (v := zero16) rfl h.causl
  unfold rightB
  rw [Bool.and_eq_true, Bool.and_eq_true]
  refine ⟨?_, ?_, ?_⟩
  · unfold vecB
    rw [List.all_eq_true]
    intro n hn
    have := setAll_vec (v := zero16) rfl (fun n hn => by simp [zero16] at hn; omega) h.causl n hn
    simpa using this
  · rw [List.all_eq_true]
    intro k hk
    rw [List.mem_range, List.length_map] at hk
    have e1 : ((sortS (doAll R)).map toIt).getD k default = toIt ((sortS (doAll R))[k]) := by rw [List.getD_eq_getElem?_getD, List.getElem?_map, List.getElem?_eq_getElem hk]; rfl
    have hm : (sortS (doAll R))[k] ∈ doAll R := (sortS_perm _).mem_iff.1 (List.getElem_mem hk)
    have hr := List.pairwise_iff_getElem.1 (sort_rise hS.ap)
    unfold itAt
    rw [e1, Bool.and_eq_true]
    refine ⟨?_, ?_⟩
    · generalize (sortS (doAll R))[k] = p at hm
      have e := getS_mem hS.ap hm
      have hne := hS.ne_nil p hm
      unfold itemB
      rw [Bool.and_eq_true, Bool.and_eq_true]
      refine ⟨decide_eq_true (List.length_pos_iff.2 hne), ?_, ?_⟩
      · have := hg.okPut (x := p.1) (by rw [e]; exact hne)
        rw [e] at this; exact this
      · rw [List.all_eq_true]
        intro y hy
        have := hg.known p.1 y (by rw [e]; exact hy)
        unfold knowsB
        rw [this.1, Bool.true_and]
        exact decide_eq_true this.2
    · rw [Bool.or_eq_true]
      by_cases h0 : k = 0
      · exact .inl (decide_eq_true h0)
      · right
        have hk1 : k - 1 < (sortS (doAll R)).length := by omega
        have e2 : ((sortS (doAll R)).map toIt).getD (k - 1) default = toIt ((sortS (doAll R))[k - 1]) := by rw [List.getD_eq_getElem?_getD, List.getElem?_map, List.getElem?_eq_getElem hk1]; rfl
        rw [e2]
        exact decide_eq_true (hr (k - 1) k hk1 hk (by omega))
  · rw [List.all_eq_true]
    intro e he
    obtain ⟨q1, _, q3, _⟩ := hup e he
    have hd := evB_dot q1
    have : dotB e.r e.c = true := by simp only [dotB, decide_eq_true_eq]; exact hd
    unfold evAt knowsB
    rw [q1, this, Bool.true_and, Bool.true_and]
    exact decide_eq_true q3
theorem snap_short {R : List Evt} (h : Row R) (hs : ∀ e ∈ R, elSum e.x + e.vt.length ≤ 300) {H : GH} {s m : Nat} (hS : Sto H s m (doAll R)) : ∀ p ∈ sortS (doAll R), IS (toIP p) ∧ (toIP p).1.L.length ≤ 1000 := fun p hp => by
  have hm := (sortS_perm _).mem_iff.1 hp
  have e := getS_mem hS.ap hm
  have hne := hS.ne_nil p hm
  have hl := live_all h p.1
  rw [e] at hl
  have hmem : ∀ y ∈ p.2, ∃ a ∈ R, a.x = p.1 ∧ y = evEnt a := fun y hy => by
    obtain ⟨a, ha, rfl⟩ := List.mem_map.1 (hl.mem_iff.1 hy)
    have ha := List.mem_filter.1 ha
    have hb := ha.2
    unfold liveB at hb
    simp only [Bool.and_eq_true, decide_eq_true_eq] at hb
    exact ⟨a, ha.1, hb.1.1, rfl⟩
  have hle := h.good.len p.1
  rw [e] at hle
  have := h.le
  obtain ⟨y, hy⟩ := List.exists_mem_of_ne_nil _ hne
  obtain ⟨a, ha, hax, _⟩ := hmem y hy
  have hx : ElS p.1 := by rw [← hax]; exact (elS_of (hs a ha)).1
  have hr : ElRange p.1 := by
    obtain ⟨_, hup⟩ := causl_up (v := zero16) rfl h.causl
    rw [← hax]; exact elem_range (evB_elem (hup a ha).1)
  refine ⟨⟨hx, hr, by show p.2.length ≤ _; omega, fun y hy => ?_, .sl _ _⟩, by show p.2.length ≤ _; omega⟩
  obtain ⟨b, hb, _, rfl⟩ := hmem y hy
  have hf := h.fit b hb
  have hsb := (elS_of (hs b hb)).2
  exact ⟨by show b.vt.length ≤ _; omega, hf.n1, hf.n2⟩
end Go.Proofs.YthmplnbogdfajaaGreatDoor
namespace Go.Proofs.YthmplnbogdfajaaGreatDoor
open Go.Sh
set_option maxHeartbeats 4000000
set_option maxRecDepth 100000
theorem st_few (E : List Evt) (hE : E.length ≤ 1000) (hbig : ∀ e ∈ E, EvBig e) (ve : GV) (hve : Elems 27 ve (E.map evG)) (l0 : List GV) (g0 : Nat) (H0 : GH) (K : GExit × St → Prop)
    (h21 : lget l0 21 = ve) (h22 : lget l0 22 = .int .i64 E.length) (h23 : lget l0 23 = .int .i64 0) (h0 : lget l0 0 = ve)
    (he : ∀ l g, lget l 0 = ve → (∀ e ∈ E, elSum e.x + e.vt.length ≤ 300) → K (.exit 0, ⟨⟨l, g⟩, H0⟩))
    (hr : ∀ l g, lget l 2 = .bool true → K (.ret, ⟨⟨l, g⟩, H0⟩)) :
    optW (erun T2 (.loop L0_x14) ⟨⟨l0, g0⟩, H0⟩) K := by
  refine range_loop (T := T2) (n := E.length) (A := Unit) (fun _ _ => [(0, ve)]) (fun i _ _ H' => H' = H0 ∧ ∀ e ∈ E.take i, elSum e.x + e.vt.length ≤ 300) (c := 24) (b := 0) (I := 23) (N := 22) (d := 30) rfl (by omega) (by decide) ⟨rfl, rfl⟩ (by simp) ?_ ?_ 0 () _ _ H0 (by omega) ⟨rfl, by simp⟩ (by simp [h0]) (.refl _ _ _) h23 h22
  · intro i a l g H' hi ⟨hH, hall⟩ hh hf hIx
    subst hH
    have h21' := hf.get 21 rfl h21 (by simp [hve.boxy])
    obtain ⟨lt, ix, opt, get, ⟨t, sv⟩, wr_, mem⟩ := at_ok (e := evG) hve hi (by omega)
    generalize E[i]'hi = e at opt get mem
    have hfe := hbig e mem
    have hsh := fun H => up (ref_Short e hfe H)
    have l1 := ev_len hfe.past
    have l4 : List.take 27 (evC e) = evC e := List.take_of_length_le (by rw [l1]; exact Nat.le_refl _)
    have lo := ev_one hfe.past
    have sp := ev_set hfe.past
    have htake : E.take (i + 1) = E.take i ++ [e] := by rw [List.take_add_one, opt]; rfl
    rw [sv] at h21'
    simp only [Holds_cons, Holds_nil, and_true] at hh
    by_cases hs : elSum e.x + e.vt.length ≤ 300
    · simp [h21', hIx, ix, opt, get, sp, l1, l4, lo, hsh, hs, hh]
      intro _ e' he'
      rw [htake] at he'
      rcases List.mem_append.1 he' with he' | he'
      · exact hall e' he'
      · rw [List.mem_singleton] at he'; subst he'; exact hs
    · simp [h21', hIx, ix, opt, get, sp, l1, l4, lo, hsh, hs]
      exact fun _ => hr _ _ (by simp)
  · intro a l g H' ⟨hH, hall⟩ hh hf
    subst hH
    rw [List.take_length] at hall
    simp only [Holds_cons, Holds_nil, and_true] at hh
    exact he l g hh hall
theorem st_dos {R : List Evt} (hR : Row R) (vr : GV) (hvr : Elems 27 vr (R.map evG)) (s m : Nat) (l0 : List GV) (g0 : Nat) (H0 : GH) (hS : Sto H0 s m []) (hbo : H0.bo ≤ H0.objs.length) (K : GExit × St → Prop)
    (h37 : lget l0 37 = vr) (h38 : lget l0 38 = .int .i64 R.length) (h39 : lget l0 39 = .int .i64 0) (h7 : lget l0 7 = .ptr s 0) (b6 : GV) (h6 : lget l0 6 = b6)
    (he : ∀ l g H, lget l 6 = b6 → Sto H s m (doAll R) → Stepm m H0 H → Fr L1_x14 l0 l → K (.exit 2, ⟨⟨l, g⟩, H⟩)) :
    optW (erun T2 (.loop L1_x14) ⟨⟨l0, g0⟩, H0⟩) K := by
  have hle := hR.le
  refine range_loop (T := T2) (n := R.length) (A := Unit) (fun _ _ => [(6, b6)]) (fun i _ _ H' => Sto H' s m (doAll (R.take i)) ∧ Stepm m H0 H') (c := 40) (b := 2) (I := 39) (N := 38) (d := 46) rfl (by omega) (by decide) ⟨rfl, rfl⟩ (by simp) ?_ ?_ 0 () _ _ H0 (by omega) ⟨hS, .refl _ _⟩ (by simp [h6]) (.refl _ _ _) h39 h38
  · intro i a l g H' hi ⟨hA, hSt⟩ hh hf hI
    have h37' := hf.get 37 rfl h37 (by simp [hvr.boxy])
    have h7' := hf.get 7 rfl h7 rfl
    obtain ⟨lt, ix, opt, get, ⟨t, sv⟩, wr_, mem⟩ := at_ok (e := evG) hvr hi (by omega)
    generalize R[i]'hi = e at opt get mem
    have hfe := hR.fit e mem
    have l1 := ev_len hfe.past
    have l4 : List.take 27 (evC e) = evC e := List.take_of_length_le (by rw [l1]; exact Nat.le_refl _)
    have lo := ev_one hfe.past
    have sp := ev_set hfe.past
    obtain ⟨H1, hd, hA1, hSt1⟩ := hR.step opt hA (hSt.bole hbo)
    rw [sv] at h37'
    simp only [Holds_cons, Holds_nil, and_true] at hh
    simp [hh, h37', h7', hI, ix, opt, get, sp, l1, l4, lo, hd]
    exact fun _ => ⟨hA1, hSt.trans hSt1⟩
  · intro i l g H' ⟨hA, hSt⟩ hh hf
    rw [List.take_length] at hA
    simp only [Holds_cons, Holds_nil, and_true] at hh
    exact he l g H' hh hA hSt hf
end Go.Proofs.YthmplnbogdfajaaGreatDoor
namespace Go.Proofs.YthmplnbogdfajaaGreatDoor
open Go.Sh
set_option maxHeartbeats 4000000
set_option maxRecDepth 100000
theorem st_puts (A : List Stp) (hA : A.length ≤ 1000) (hok : ∀ p ∈ A, ItOk p) (J : List IP) (hJ : J.map (·.1) = A.map toIt) (hJe : ∀ p ∈ J, IOk p) (vi : GV) (hvi : Elems 6 vi (J.map ipG)) (s m : Nat) (l0 : List GV) (g0 : Nat) (H0 : GH) (hS : Sto H0 s m []) (hbo : H0.bo ≤ H0.objs.length) (K : GExit × St → Prop)
    (h8 : lget l0 8 = vi) (h9 : lget l0 9 = .int .i64 A.length) (h10 : lget l0 10 = .int .i64 0) (h3 : lget l0 3 = .ptr s 0)
    (he : ∀ l g H, lget l 3 = .ptr s 0 → Sto H s m (putQ A 0 A.length) → Stepm m H0 H → K (.exit 0, ⟨⟨l, g⟩, H⟩)) :
    optW (erun T2 (.loop L0_x52) ⟨⟨l0, g0⟩, H0⟩) K := by
  have hJl : J.length = A.length := by have := congrArg List.length hJ; simpa using this
  refine range_loop (T := T2) (n := A.length) (A := Unit) (fun _ _ => []) (fun i _ _ H' => Sto H' s m (putQ A 0 i) ∧ Stepm m H0 H') (c := 11) (b := 0) (I := 10) (N := 9) (d := 17) rfl (by omega) (by decide) ⟨rfl, rfl⟩ (by simp) ?_ ?_ 0 () _ _ H0 (by omega) ⟨hS, .refl _ _⟩ (by simp) (.refl _ _ _) h10 h9
  · intro i a l g H' hi ⟨hB, hSt⟩ hh hf hI
    have h8' := hf.get 8 rfl h8 (by simp [hvi.boxy])
    have h3' := hf.get 3 rfl h3 rfl
    have hiJ : i < J.length := by omega
    have hAi : A[i]? = some A[i] := List.getElem?_eq_getElem hi
    have hm : A[i] ∈ A := List.getElem_mem hi
    obtain ⟨lt, ix, opt, get, ⟨tg, sv⟩, wr_, mem⟩ := at_ok (e := ipG) hvi hiJ (by omega)
    have e1 : (J[i]'hiJ).1 = toIt (A[i]'hi) := by
      have h1 := congrArg (fun l => l[i]?) hJ
      simp only [List.getElem?_map, hAi, List.getElem?_eq_getElem hiJ, Option.map_some] at h1
      exact Option.some.inj h1
    generalize J[i]'hiJ = q at opt get mem e1
    generalize A[i]'hi = p at hAi hm e1
    have hq := hJe q mem
    have hp := hok p hm
    have eL : q.1.L = p.2 := by rw [e1]; rfl
    have ex : q.1.x = p.1 := by rw [e1]; rfl
    have hel := hq.el
    rw [eL] at hel
    obtain ⟨H1, hd, hB1, hSt1⟩ := put_step hB p.1 hp.fit hp.range p.2 hp.le hp.ent hp.ok q.2 hel (hSt.bole hbo)
    have hpq : putQ A 0 (i + 1) = putS (putQ A 0 i) p.1 p.2 := by
      rw [putQ, Nat.add_zero, Nat.mod_eq_of_lt hi, hAi]
    have hone := hel.one
    have hok' := hel.ok
    have hue := elemsUnbox hel
    rw [sv] at h8'
    simp only [itemC, elC, List.cons_append, List.nil_append] at hd
    simp [gSetAll, gFill, h8', h3', hI, ix, opt, get, itemC, elC, setPart, ex, hone, hok', hue, hd]
    exact fun _ => ⟨by rw [hpq]; exact hB1, hSt.trans hSt1⟩
  · intro a l g H' ⟨hB, hSt⟩ hh hf
    exact he l g H' (hf.get 3 rfl h3 rfl) hB hSt
theorem snap_Store (kv : List Int) (hk : kv.length = 16) (A : List Stp) (hA : A.length ≤ 1000) (hok : ∀ p ∈ A, ItOk p) (J : List IP) (hJ : J.map (·.1) = A.map toIt) (hJe : ∀ p ∈ J, IOk p) (vi ve : GV) (hvi : Elems 6 vi (J.map ipG)) (hv1 : ve.one = true) (hv2 : ve.ok = true) (H : GH) (hbo : H.bo ≤ H.objs.length) :
    ∃ s m H', ecall T2 f_x52 [.agg (snC kv vi ve)] H = some (.ptr s 0, H') ∧ Sto H' s m (putQ A 0 A.length) := by
  have s16 := sn_16 hk vi ve
  have s16' := sn_16' hk vi ve
  have sl := sn_len hk vi ve
  have hJl : J.length = A.length := by have := congrArg List.length hJ; simpa using this
  have vl := hvi.len
  have vu := elemsUnbox hvi
  have vk := hvi.ok
  simp only [List.length_map] at vl
  rw [hJl] at vl
  have n1 := new_ok H
  have s1 := Sto.new H hbo
  have m1 := new_more H
  have key : optW (ecall T2 f_x52 [.agg (snC kv vi ve)] H) fun r => ∃ s m H', r = (.ptr s 0, H') ∧ Sto H' s m (putQ A 0 A.length) := by
    rw [ecall_0 (T2_up _ _ T_x52) rfl (by simp [F_x52]), wp_fin1]
    simp only [F_x52, b_x52]
    generalize newH H = H2 at n1 s1 m1
    have hbo2 : H2.bo ≤ H2.objs.length := by rw [m1.bo]; exact Nat.le_trans hbo m1.len
    simp [s16, s16', sl, vl, vu, vk, n1]
    rw [wp_seqK, wp_blockK]
    refine st_puts A hA hok J hJ hJe vi hvi (H.objs.length + 1) H.objs.length _ _ H2 s1 hbo2 _ (by simp [vu]) (by simp) (by simp) (by simp) ?_
    intro l g H3 k3 hS hSt
    simp [k3]
    exact ⟨_, _, _, ⟨rfl, rfl⟩, hS⟩
  obtain ⟨r, h, s, m, H', rfl, h2⟩ := key
  exact ⟨s, m, H', h, h2⟩
end Go.Proofs.YthmplnbogdfajaaGreatDoor
namespace Go.Proofs.YthmplnbogdfajaaGreatDoor
open Go.Sh
set_option maxHeartbeats 4000000
set_option maxRecDepth 100000
section
variable {kv : List Int} (hk : kv.length = 16)
include hk
theorem sn_p0 : setPart [GV.int .i64 0, .int .i64 0, .int .i64 0, .int .i64 0, .int .i64 0, .int .i64 0, .int .i64 0, .int .i64 0, .int .i64 0, .int .i64 0, .int .i64 0, .int .i64 0, .int .i64 0, .int .i64 0, .int .i64 0, .int .i64 0, .nilsl, .nilsl] 0 (kv.map intG) = some (kv.map intG ++ [.nilsl, .nilsl]) := by
  simp only [setPart, List.length_map, hk]; rfl
theorem sn_p1 (v : GV) : setPart (kv.map intG ++ [.nilsl, .nilsl]) 16 [v] = some (kv.map intG ++ [v, .nilsl]) := by
  simp [setPart, hk, List.take_append, List.drop_append, List.take_of_length_le]
theorem sn_p2 (v w : GV) : setPart (kv.map intG ++ [v, .nilsl]) 17 [w] = some (snC kv v w) := by
  simp [setPart, hk, List.take_append, List.drop_append, List.take_of_length_le, snC]
end
theorem snapStores_ok (E : List Evt) (hE : E.length ≤ 9223372036854775807) (hin : ∀ e ∈ E, EvIn e) (ve : GV) (hve : Elems 27 ve (E.map evG)) (H : GH) (hbo : H.bo ≤ H.objs.length) (hbt : H.bt ≤ H.toks.length) :
    ∃ H', ecall T2 f_x14 [ve] H = some (.bool true, H') := by
  have hfx := fun H => up (fixed_ok H)
  have key : optW (ecall T2 f_x14 [ve] H) fun r => ∃ H', r = (.bool true, H') := by
    rw [ecall_0 (T2_up _ _ T_x14) rfl (by simp [F_x14]), wp_fin1]
    simp only [F_x14, b_x14]
    have hue := elemsUnbox hve
    have hok := hve.ok
    have hle := hve.len
    simp only [List.length_map] at hle
    by_cases hl : (60 : Int) < E.length
    · have hl' : 60 < E.length := by omega
      simp [hfx, hue, hok, hle, hl, hl']
    have hl' : ¬ 60 < E.length := by omega
    simp [hfx, hue, hok, hle, hl, hl']
    rw [wp_seqK, wp_blockK]
    refine st_few E (by omega) (fun e he => (hin e he).big) ve hve _ _ H _ (by simp [hue]) (by simp) (by simp) (by simp) ?_ ?_
    · intro l0 g0 k0 hsh
      have hl60 : E.length ≤ 60 := by omega
      have hfit : ∀ e ∈ E, EvFit e := fun e he => (hin e he).fit (hsh e he)
      obtain ⟨vr, H1, hca, hG⟩ := ref_Causal E (by omega) hfit ve hve H hbt
      have hca := up hca
      have hrow := row_of hl60 hfit
      have hcl := (causal_out E).2
      obtain ⟨_, hkn, hsubE⟩ := causal_causl E
      have hshR : ∀ e ∈ (causal E).1, elSum e.x + e.vt.length ≤ 300 := fun e he => hsh e (hsubE e he)
      generalize (causal E).1 = R at hrow hG hkn hshR
      generalize (causal E).2 = kv at hcl hca hkn
      have hrok := hG.ok
      have hre := hG.app.elems
      have hrl := hre.len
      have hru := elemsUnbox hre
      have hr1 := hre.one
      simp only [List.length_map] at hrl
      have hbo1 : H1.bo ≤ H1.objs.length := by rw [hG.step.objs, hG.step.bo]; exact hbo
      have hone : ∀ z : List GV, z.length = 16 → setPart z 0 (kv.map intG) = some (kv.map intG) := fun z hz => by
        simp only [setPart, hz, List.length_map, hcl]; simp [hcl, hz]
      have ho2 : kv.all (GV.one ∘ intG) = true := by rw [List.all_eq_true]; intros; rfl
      have t3 : List.take 16 kv = kv := List.take_of_length_le (by omega)
      have n1 := new_ok H1
      have s1 := Sto.new H1 hbo1
      have m1 := new_more H1
      generalize newH H1 = H2 at n1 s1 m1
      have hbo2 : H2.bo ≤ H2.objs.length := by rw [m1.bo]; exact Nat.le_trans hbo1 m1.len
      have hrle := hrow.le
      simp [k0, hue, hok, hca, hrok, hrl, hru, hcl, hone, ho2, t3, n1]
      rw [wp_seqK, wp_blockK]
      refine st_dos hrow vr hre (H1.objs.length + 1) H1.objs.length _ _ H2 s1 hbo2 _ (by simp [hru]) (by simp) (by simp) (by simp) (.lbox g0 (kv.map intG)) (by simp) ?_
      intro l4 g4 H4 k6 sA stA hf4
      have hgood := hrow.good
      have hbo4 := stA.bole hbo2
      have k7 := hf4.get 7 rfl (v := .ptr (H1.objs.length + 1) 0) (by simp) rfl
      have k5 := hf4.get 5 rfl (v := vr) (by simp [hru]) (by simp [hre.boxy])
      have hsz := hgood.size
      obtain ⟨va, hall, hva⟩ := all_ok sA (by omega)
      have hsl := sortS_len (doAll R)
      have hright := snap_right hrow sA
      have hshort := snap_short hrow hshR sA
      rw [← hkn] at hright
      have hva' := hva
      rw [← toIP_G] at hva'
      have hIS : ∀ p ∈ (sortS (doAll R)).map toIP, IS p ∧ p.1.L.length ≤ 1000 := fun p hp => by
        obtain ⟨q, hq, rfl⟩ := List.mem_map.1 hp
        exact hshort q hq
      have hIl : ((sortS (doAll R)).map toIP).length ≤ 1000 := by rw [List.length_map]; omega
      have hEvS : ∀ e ∈ R, EvS e := fun e he => by
        have hf := hrow.fit e he
        obtain ⟨a, b⟩ := elS_of (hshR e he)
        exact ⟨hf.past, a, by omega, hf.n1, hf.n2⟩
      -- the bytes
      obtain ⟨vb, hby, hvb⟩ := snap_Bytes kv hcl ((sortS (doAll R)).map toIP) hIl hIS R (by omega) hEvS va vr hva' hre H4
      rw [toIP_1] at hby hvb
      rw [hright] at hby hvb
      simp only [if_true] at hby hvb
      have hby := up hby
      have hitm : ∀ p ∈ (sortS (doAll R)).map toIt, ElS p.x ∧ p.L.length ≤ 1000 ∧ ∀ e ∈ p.L, EntS e := fun p hp => by
        obtain ⟨q, hq, rfl⟩ := List.mem_map.1 hp
        have := hshort q hq
        exact ⟨this.1.x, this.2, this.1.fit⟩
      have hlen := snapBy_len hcl (by rw [List.length_map]; omega) hitm (by omega) hEvS
      have hfitS : SnFit kv ((sortS (doAll R)).map toIt) R := ⟨hcl, fun p hp => ⟨(hitm p hp).1.ok, by have := (hitm p hp).2.1; omega, fun e he => by have := ((hitm p hp).2.2 e he).t; omega⟩, by rw [List.length_map]; omega, fun e he => (hEvS e he).ok, by omega⟩
      obtain ⟨pc, pk, pi, pv⟩ := parse_code hfitS hright
      obtain ⟨wi, we, J, hpa, hwi, hwe, hJ, hJok, _⟩ := snap_Parse hvb (isB_snapBy _ _ _) hlen H4
      have hpa := up hpa
      rw [pc] at hpa hwe hJ
      simp only [if_true, pk, pi, pv] at hpa hwe hJ
      have hsame := fun H => up (snap_Same kv hcl ((sortS (doAll R)).map toIP) J (by rw [toIP_1]; exact hJ.symm) (by omega) (fun p hp => (hIS p hp).1.ok) hJok R (by omega) (fun e he => (hEvS e he).past) va vr wi we hva' hwi hre hwe H)
      -- the store again
      have hitem := hgood.item (by omega) sA.ap sA.ne_nil
      obtain ⟨s2, m2, H5, hst, sB⟩ := snap_Store kv hcl (sortS (doAll R)) (by omega) hitem J hJ hJok wi we hwi hwe.one hwe.ok H4 hbo4
      have hperm : (doAll R).Perm (putQ (sortS (doAll R)) 0 (sortS (doAll R)).length) := same_perm sA.ap sB.ap sA.ne_nil sB.ne_nil fun x => (putQ_same sA.ap sA.ne_nil (sortS_perm _) 0 x).symm
      have hso := sort_same sA.ap sB.ap hperm
      have hql := putQ_len (sortS (doAll R)) 0 (sortS (doAll R)).length
      obtain ⟨v2, hall2, hv2⟩ := all_ok sB (by omega)
      rw [← hso, ← toIP_G] at hv2
      have hsame2 := fun H => up (snap_Same kv hcl ((sortS (doAll R)).map toIP) ((sortS (doAll R)).map toIP) rfl (by omega) (fun p hp => (hIS p hp).1.ok) (fun p hp => (hIS p hp).1.ok) R (by omega) (fun e he => (hEvS e he).past) va vr v2 vr hva' hv2 hre hre H)
      have au := elemsUnbox hva
      have ak := hva.ok
      have a1 := hva.one
      have u2 := elemsUnbox hv2
      have k2 := hv2.ok
      have o2 := hv2.one
      have bu := elemsUnbox hvb
      have bk := hvb.ok
      have tl := sn_len hcl wi we
      have t18 : List.take 18 (snC kv wi we) = snC kv wi we := List.take_of_length_le (by rw [tl]; exact Nat.le_refl _)
      have hon : (snC kv wi we).all GV.one = true := by simp [snC, hwi.one, hwe.one]
      have hset : setPart sn0 0 (snC kv wi we) = some (snC kv wi we) := by simp only [setPart, tl]; simp [tl]
      simp only [sn0] at hset
      have p0 := sn_p0 hcl
      have p1 := fun v => sn_p1 hcl v
      have p2 := fun v w => sn_p2 hcl v w
      have tk : List.take 16 (kv.map intG) = kv.map intG := List.take_of_length_le (by simp [hcl])
      have ac := hva.cells
      have rc := hre.cells
      have c2 := hv2.cells
      have sl := sn_len hcl va vr
      have s18 : List.take 18 (snC kv va vr) = snC kv va vr := List.take_of_length_le (by rw [sl]; exact Nat.le_refl _)
      have son : (snC kv va vr).all GV.one = true := by simp [snC, a1, hr1]
      have sl2 := sn_len hcl v2 vr
      have s182 : List.take 18 (snC kv v2 vr) = snC kv v2 vr := List.take_of_length_le (by rw [sl2]; exact Nat.le_refl _)
      have son2 : (snC kv v2 vr).all GV.one = true := by simp [snC, o2, hr1]
      have hset0 : ∀ z, z.length = 18 → setPart [GV.int .i64 0, .int .i64 0, .int .i64 0, .int .i64 0, .int .i64 0, .int .i64 0, .int .i64 0, .int .i64 0, .int .i64 0, .int .i64 0, .int .i64 0, .int .i64 0, .int .i64 0, .int .i64 0, .int .i64 0, .int .i64 0, .nilsl, .nilsl] 0 z = some z := fun z hz => by
        simp only [setPart, hz]; simp [hz]
      have hsA := hset0 _ sl
      have hsB := hset0 _ sl2
      simp [k5, k6, k7, hall, au, ak, hcl, hru, hrok, gFill, gSetAll, tk, p0, p1, p2, ac, rc, c2, sl, s18, son, hsA, hby, bu, bk, hpa, tl, t18, hon, hset, hst, hall2, u2, k2, sl2, s182, son2, hsB, hsame, hsame2]
    · intro l0 g0 k2
      simp [k2]
  obtain ⟨r, h, H', rfl⟩ := key
  exact ⟨H', h⟩
end Go.Proofs.YthmplnbogdfajaaGreatDoor
namespace Go.Proofs.YthmplnbogdfajaaGreatDoor
open Go.Sh Go.ChangeShapes Go.WideShapes Go.ChangeAt Go.RowKit
set_option maxRecDepth 100000
theorem snapStores_args (gargs : List GV) (h : ArgsFit [.slice evSh] gargs) : ∃ H', ecall T2 f_x14 gargs (isoH Tryz.prog.globals.size) = some (.bool true, H') := by
  cases h with
  | cons h1 t1 =>
    cases t1
    obtain ⟨E, hE, he, hel⟩ := fits_list (f := evG) (fun c hc => fits_ev hc) h1
    exact snapStores_ok E (by unfold maxLen at hel; omega) he _ hE _ (by simp [isoH]) (by simp [isoH])
end Go.Proofs.YthmplnbogdfajaaGreatDoor
