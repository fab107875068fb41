/- Own work: the shadow machine and what it shows, part La. -/
import Derived.Test.YthbhfipgdinihaaGreatDoorRd
import Derived.Test.YthbhfipgdinihaaGreatDoorSa
import Derived.Test.YthbhfipgdinihaaGreatDoorPl
set_option linter.all false

namespace Go.Proofs.YthbhfipgdinihaaGreatDoor
open Go.Sh
set_option maxRecDepth 100000

/-! ## The two laws of snapshots' bytes -/

theorem fixed_run (H : GH) : gcall T 3000 f_hedgerowlaw12_fixed [] H = some (.bool true, H) := by kernel_rfl
theorem fixed_ok (H : GH) : ecall T f_hedgerowlaw12_fixed [] H = some (.bool true, H) := ecall_iff.2 ⟨3000, fixed_run H⟩

theorem isB_flat {α : Type} {f : α → List Int} {l : List α} (h : ∀ x ∈ l, isB (f x)) : isB (l.flatMap f) := fun c hc => by
  obtain ⟨x, hx, hm⟩ := List.mem_flatMap.1 hc
  exact h x hx c hm
theorem isB_tB (t : List UInt8) : isB (tB t) := fun c hc => by
  obtain ⟨b, _, rfl⟩ := List.mem_map.1 hc
  have := b.toNat_lt
  omega
theorem isB_textB (t : List UInt8) : isB (textB t) := isB_append (isB_putB _) (isB_tB t)
theorem isB_sigB (n : Int) : isB (sigB n) := by
  unfold sigB
  split
  · intro c hc; cases hc
  · split <;> exact isB_putB _
theorem isB_vlB (k n : Int) (t : List UInt8) : isB (vlB k n t) := isB_append (isB_putB _) (isB_append (isB_sigB n) (isB_textB t))
theorem isB_entBy (e : Ent) : isB (entBy e) := isB_append (isB_putB _) (isB_append (isB_putB _) (isB_vlB _ _ _))
theorem isB_elBy (x : El) : isB (elBy x) := isB_append (isB_putB _) (isB_flat fun t _ => isB_textB t)
theorem isB_itemBy (p : Itm) : isB (itemBy p) := isB_append (isB_elBy _) (isB_append (isB_putB _) (isB_flat fun e _ => isB_entBy e))
theorem isB_evBy (e : Evt) : isB (evBy e) := isB_append (isB_append (isB_append (isB_putB _) (isB_append (isB_putB _) (isB_flat fun n _ => isB_putB n))) (isB_append (isB_putB _) (isB_elBy _))) (isB_vlB _ _ _)
theorem isB_snapBy (kv : List Int) (I : List Itm) (E : List Evt) : isB (snapBy kv I E) :=
  isB_append (isB_flat fun n _ => isB_putB n) (isB_append (isB_putB _) (isB_append (isB_flat fun p _ => isB_itemBy p) (isB_append (isB_putB _) (isB_flat fun e _ => isB_evBy e))))

theorem snapBy_len {kv : List Int} {I : List Itm} {E : List Evt} (hk : kv.length = 16) (hI : I.length ≤ 1000) (h : ∀ p ∈ I, ElS p.x ∧ p.L.length ≤ 1000 ∧ ∀ e ∈ p.L, EntS e) (hE : E.length ≤ 1000) (he : ∀ e ∈ E, EvS e) : (snapBy kv I E).length ≤ 2 ^ 40 := by
  have h1 := itemBy_lens I h hI
  have h2 := flat_le putB 9 kv (fun n _ => putB_len n)
  have h3 := flat_le evBy 6000 E (fun e hm => evBy_len (he e hm))
  have h4 := putB_len I.length
  have h5 := putB_len E.length
  have h6 : E.length * 6000 ≤ 1000 * 6000 := Nat.mul_le_mul_right _ hE
  rw [hk] at h2
  simp only [snapBy, List.length_append]
  omega

/-- What comes in from without. -/
structure IIn (p : IP) : Prop where
  big : IBig p
  r : ElRange p.1.x
  n : ∀ e ∈ p.1.L, -9223372036854775808 ≤ e.n ∧ e.n ≤ 9223372036854775807
structure EIn (e : Evt) : Prop where
  big : EvBig e
  n : -9223372036854775808 ≤ e.vn ∧ e.vn ≤ 9223372036854775807

theorem elS_of {x : El} {m : Nat} (h : elSum x + m ≤ 300) : ElS x ∧ m ≤ 300 := by
  unfold elSum at h
  exact ⟨⟨by omega, by omega, by omega, by omega⟩, by omega⟩

theorem IIn.is {p : IP} (h : IIn p) (hs : Small p.1) : IS p ∧ p.1.L.length ≤ 1000 := by
  have h20 := hs.L
  refine ⟨⟨(elS_of (m := 0) (by have := hs.x; omega)).1, h.r, by omega, fun e he => ⟨by have := hs.t e he; omega, (h.n e he).1, (h.n e he).2⟩, h.big.el⟩, by omega⟩
theorem EIn.ev {e : Evt} (h : EIn e) (hs : elSum e.x + e.vt.length ≤ 300) : EvS e := by
  obtain ⟨a, b⟩ := elS_of hs
  exact ⟨h.big.past, a, by omega, h.n.1, h.n.2⟩

theorem snapBytes_ok (kv : List Int) (hk : kv.length = 16) (I : List IP) (hI : I.length ≤ 9223372036854775807) (hin : ∀ p ∈ I, IIn p) (E : List Evt) (hE : E.length ≤ 9223372036854775807) (hine : ∀ e ∈ E, EIn e) (vi ve : GV) (hvi : Elems 6 vi (I.map ipG)) (hve : Elems 27 ve (E.map evG)) (H : GH) :
    ∃ H', ecall T f_hedgerowlaw12_SnapBytes [.agg (snC kv vi ve)] H = some (.bool true, H') := by
  have hfx := fixed_ok
  have sl := sn_len hk vi ve
  have st := sn_take hk vi ve
  have s16 := sn_16 hk vi ve
  have s16' := sn_16' hk vi ve
  have s17 := sn_17 hk vi ve
  have s17' := sn_17' hk vi ve
  have s18 : List.take 18 (snC kv vi ve) = snC kv vi ve := List.take_of_length_le (by rw [sl]; exact Nat.le_refl _)
  obtain ⟨b, hfew, hb⟩ := few_ok kv hk I hI (fun p hp => (hin p hp).big) E hE (fun e he => (hine e he).big) vi ve hvi hve H
  have key : optW (ecall T f_hedgerowlaw12_SnapBytes [.agg (snC kv vi ve)] H) fun r => ∃ H', r = (.bool true, H') := by
    rw [ecall_0 T_hedgerowlaw12_SnapBytes rfl (by simp [F_hedgerowlaw12_SnapBytes]), wp_fin1]
    simp only [F_hedgerowlaw12_SnapBytes, b_hedgerowlaw12_SnapBytes]
    cases b with
    | false => simp [hfx, sl, s18, hfew]
    | true =>
      obtain ⟨hI30, hE30, hsm, hse⟩ := hb rfl
      have hIS : ∀ p ∈ I, IS p ∧ p.1.L.length ≤ 1000 := fun p hp => (hin p hp).is (hsm p hp)
      have hEvS : ∀ e ∈ E, EvS e := fun e he => (hine e he).ev (hse e he)
      obtain ⟨v, hby, hv⟩ := snap_Bytes kv hk I (by omega) hIS E (by omega) hEvS vi ve hvi hve H
      have hlr := law_right kv hk I (by omega) (fun p hp => (hIS p hp).1.ok) E (by omega) (fun e he => (hEvS e he).ok) vi ve hvi hve H
      have hsr := fun H => snap_Right kv hk I (by omega) (fun p hp => (hIS p hp).1.ok) E (by omega) (fun e he => (hEvS e he).ok) vi ve hvi hve H
      cases hr : rightB kv (I.map (·.1)) E with
      | false =>
        rw [hr] at hby hv hlr hsr
        simp only [Bool.false_eq_true, if_false] at hby hv hsr
        have hvl := hv.len
        have hvu := hv.unb
        simp [hfx, sl, s18, hfew, hby, hlr, hsr, hvl, hvu]
      | true =>
        rw [hr] at hby hv hlr hsr
        simp only [if_true] at hby hv hsr
        have hitm : ∀ p ∈ I.map (·.1), ElS p.x ∧ p.L.length ≤ 1000 ∧ ∀ e ∈ p.L, EntS e := fun p hp => by
          obtain ⟨q, hq, rfl⟩ := List.mem_map.1 hp
          exact ⟨(hIS q hq).1.x, (hIS q hq).2, (hIS q hq).1.fit⟩
        have hlen := snapBy_len hk (by rw [List.length_map]; omega) hitm (by omega) hEvS
        have hfit : SnFit kv (I.map (·.1)) E := ⟨hk, fun p hp => ⟨(hitm p hp).1.ok, by have := (hitm p hp).2.1; omega, fun e he => by have := ((hitm p hp).2.2 e he).t; omega⟩, by rw [List.length_map]; omega, fun e he => (hEvS e he).ok, by omega⟩
        obtain ⟨pc, pk, pi, pv⟩ := parse_code hfit hr
        obtain ⟨wi, we, J, hpa, hwi, hwe, hJ, hJok, _⟩ := snap_Parse hv (isB_snapBy _ _ _) hlen H
        rw [pc] at hpa hwe hJ
        simp only [if_true, pk, pi, pv] at hpa hwe hJ
        obtain ⟨s, R, hit, hs, hR, hRok⟩ := law_items I (by omega) hIS vi hvi H
        have hRl : R.length = I.length := by have := congrArg List.length hR; simpa using this
        obtain ⟨w, hrb, hw⟩ := ref_Bytes kv hk R (by omega) hRok (by rw [hR]; exact hitm) E (by omega) hEvS s ve hs hve H
        rw [hR] at hw
        have hsame := snap_Same kv hk I J hJ.symm (by omega) (fun p hp => (hIS p hp).1.ok) hJok E (by omega) (fun e he => (hEvS e he).past) vi ve wi we hvi hwi hve hwe H
        have tl := sn_len hk wi we
        have t18 : List.take 18 (snC kv wi we) = snC kv wi we := List.take_of_length_le (by rw [tl]; exact Nat.le_refl _)
        have hon : (snC kv wi we).all GV.one = true := by simp [snC, hwi.one, hwe.one]
        have hset : setPart sn0 0 (snC kv wi we) = some (snC kv wi we) := by simp only [setPart, tl]; simp [tl]
        simp only [sn0] at hset
        have hb1 := fun call l g H => b2s_u8s hv call l g H
        have hb2 := fun call l g H => b2s_u8s hw call l g H
        simp [hfx, sl, s18, st, s16, s16', s17, s17', hfew, hby, hlr, hsr, hv.unb, hv.ok, hw.unb, hw.ok, hvi.unb, hvi.ok, hve.unb, hve.ok, hs.unb, hs.ok, hpa, hit, hrb, hb1, hb2, tl, t18, hon, hset, hsame]
  obtain ⟨r, h1, H', rfl⟩ := key
  exact ⟨H', h1⟩

theorem mem_len {α : Type} {f : α → List Int} {l : List α} {x : α} (h : x ∈ l) : (f x).length ≤ (l.flatMap f).length := by
  induction l with
  | nil => cases h
  | cons y l ih =>
    rw [List.flatMap_cons, List.length_append]
    rcases List.mem_cons.1 h with rfl | h
    · omega
    · have := ih h; omega
theorem flat_ge {α : Type} {f : α → List Int} {l : List α} (h : ∀ x ∈ l, 1 ≤ (f x).length) : l.length ≤ (l.flatMap f).length := by
  induction l with
  | nil => simp
  | cons y l ih =>
    rw [List.flatMap_cons, List.length_append, List.length_cons]
    have h1 := h y (by simp)
    have h2 := ih fun x hx => h x (by simp [hx])
    omega
theorem putB_pos {n : Int} (h : nOk n) : 1 ≤ (putB n).length := by rw [putB_numB h]; exact numB_pos n

theorem textB_ge (t : List UInt8) : t.length ≤ (textB t).length := by unfold textB; rw [List.length_append, tB_len]; omega
theorem ent_len {e : Ent} (h : EntR e) : 1 ≤ (entBy e).length ∧ e.t.length ≤ (entBy e).length := by
  have h1 := putB_pos h.r
  have h2 := textB_ge e.t
  simp only [entBy, vlB, List.length_append]
  omega
theorem el_len {x : El} (h : ElR x) : 1 ≤ (elBy x).length ∧ x.a.length ≤ (elBy x).length ∧ x.b.length ≤ (elBy x).length ∧ x.c.length ≤ (elBy x).length ∧ x.d.length ≤ (elBy x).length := by
  have h1 := putB_pos h.k
  have h2 := textB_ge x.a
  have h3 := textB_ge x.b
  have h4 := textB_ge x.c
  have h5 := textB_ge x.d
  simp only [elBy, txB, List.flatMap_cons, List.flatMap_nil, List.length_append, List.length_nil]
  omega

theorem snapParses_ok (B : List Int) (hB : isB B) (hBl : B.length ≤ 9223372036854775807) (v : GV) (hv : Elems 1 v (u8s B)) (H : GH) :
    ∃ H', ecall T f_hedgerowlaw12_SnapParses [v] H = some (.bool true, H') := by
  have hfx := fixed_ok
  have hvl := hv.len
  rw [u8s_length] at hvl
  have hvu := hv.unb
  have key : optW (ecall T f_hedgerowlaw12_SnapParses [v] H) fun r => ∃ H', r = (.bool true, H') := by
    rw [ecall_0 T_hedgerowlaw12_SnapParses rfl (by simp [F_hedgerowlaw12_SnapParses]), wp_fin1]
    simp only [F_hedgerowlaw12_SnapParses, b_hedgerowlaw12_SnapParses]
    by_cases h6 : 600 < B.length
    · have h6' : (600 : Int) < B.length := by omega
      simp [hfx, hvl, hvu, h6, h6']
    · have h6' : ¬ (600 : Int) < B.length := by omega
      obtain ⟨wi, we, J, hpa, hwi, hwe, hJ, hJok, hJl, hEok, hEl⟩ := snap_Parse hv hB (by omega) H
      by_cases hc : pCode B = 0
      · have hkl : (pK B).1.length = 16 := rNs_len _ _
        obtain ⟨c1, c2, c3, c4⟩ := code_zero hc
        obtain ⟨hback, hIR, hER⟩ := parse_back hB hc
        simp only [hc, if_true] at hpa hwe hJ
        generalize hkv : (pK B).1 = kv at *
        generalize hII : (pI B).1 = I at *
        generalize hEE : (pV B).1 = E at *
        have hlen : (kv.flatMap putB).length + ((putB I.length).length + ((I.flatMap itemBy).length + ((putB E.length).length + (E.flatMap evBy).length))) = B.length := by
          conv => rhs; rw [hback]
          simp only [snapBy, List.length_append]
        have hIb : ∀ p ∈ I, (itemBy p).length ≤ B.length := fun p hp => by have := mem_len (f := itemBy) hp; omega
        have hEb : ∀ e ∈ E, (evBy e).length ≤ B.length := fun p hp => by have := mem_len (f := evBy) hp; omega
        have hitm : ∀ p ∈ I, ElS p.x ∧ p.L.length ≤ 1000 ∧ ∀ e ∈ p.L, e.t.length ≤ 1000 := fun p hp => by
          have h1 := hIb p hp
          have h2 := el_len (hIR p hp).x
          have h3 : (itemBy p).length = (elBy p.x).length + ((putB p.L.length).length + (p.L.flatMap entBy).length) := by simp only [itemBy, List.length_append]
          have h4 := flat_ge (f := entBy) (l := p.L) fun e he => (ent_len ((hIR p hp).e e he)).1
          refine ⟨⟨by omega, by omega, by omega, by omega⟩, by omega, fun e he => ?_⟩
          have h5 := (ent_len ((hIR p hp).e e he)).2
          have h6 := mem_len (f := entBy) he
          omega
        have hI1 : I.length ≤ 600 := by
          have := flat_ge (f := itemBy) (l := I) fun p hp => by
            have h2 := el_len (hIR p hp).x
            simp only [itemBy, List.length_append]; omega
          omega
        have hE1 : E.length ≤ 600 := by
          have := flat_ge (f := evBy) (l := E) fun e he => by
            have h2 := putB_pos (hER e he).r
            simp only [evBy, List.length_append]; omega
          omega
        have hEvS : ∀ e ∈ E, EvS e := fun e he => by
          have h1 := hEb e he
          have h2 := el_len (hER e he).x
          have h3 := textB_ge e.vt
          have h4 : (elBy e.x).length + (textB e.vt).length ≤ (evBy e).length := by simp only [evBy, vlB, List.length_append]; omega
          have hf := hEok e he
          exact ⟨hf.past, ⟨by omega, by omega, by omega, by omega⟩, by omega, hf.n1, hf.n2⟩
        have hJl2 : J.length = I.length := by have := congrArg List.length hJ; simpa using this
        have hIS : ∀ p ∈ J, IS p ∧ p.1.L.length ≤ 1000 := fun p hp => by
          have hm : p.1 ∈ I := by rw [← hJ]; exact List.mem_map_of_mem hp
          obtain ⟨a, b, c⟩ := hitm p.1 hm
          have ho := hJok p hp
          exact ⟨⟨a, ho.r, ho.L, fun e he => ⟨c e he, (ho.fit e he).n1, (ho.fit e he).n2⟩, ho.el⟩, b⟩
        have hlr := law_right kv hkl J (by omega) hJok E (by omega) hEok wi we hwi hwe H
        rw [hJ, c4] at hlr
        obtain ⟨s, R, hit, hs, hR, hRok⟩ := law_items J (by omega) hIS wi hwi H
        have hRl : R.length = J.length := by have := congrArg List.length hR; simpa using this
        have hfitR : ∀ p ∈ R.map (·.1), ElS p.x ∧ p.L.length ≤ 1000 ∧ ∀ e ∈ p.L, EntS e := by
          rw [hR]
          intro p hp
          obtain ⟨q, hq, rfl⟩ := List.mem_map.1 hp
          exact ⟨(hIS q hq).1.x, (hIS q hq).2, (hIS q hq).1.fit⟩
        obtain ⟨w, hrb, hw⟩ := ref_Bytes kv hkl R (by omega) hRok hfitR E (by omega) hEvS s we hs hwe H
        rw [hR, hJ, ← hback] at hw
        have sl := sn_len hkl wi we
        have st := sn_take hkl wi we
        have s16 := sn_16 hkl wi we
        have s16' := sn_16' hkl wi we
        have s17 := sn_17 hkl wi we
        have s17' := sn_17' hkl wi we
        have s18 : List.take 18 (snC kv wi we) = snC kv wi we := List.take_of_length_le (by rw [sl]; exact Nat.le_refl _)
        have hon : (snC kv wi we).all GV.one = true := by simp [snC, hwi.one, hwe.one]
        have hset : setPart sn0 0 (snC kv wi we) = some (snC kv wi we) := by simp only [setPart, sl]; simp [sl]
        simp only [sn0] at hset
        have hb1 := fun call l g H => b2s_u8s hv call l g H
        have hb2 := fun call l g H => b2s_u8s hw call l g H
        simp [hfx, hvl, hvu, hv.ok, h6, h6', hpa, sl, st, s16, s16', s17, s17', s18, hon, hset, hlr, hit, hrb, hwi.unb, hwi.ok, hwe.unb, hwe.ok, hs.unb, hs.ok, hw.unb, hw.ok, hb1, hb2]
      · simp only [hc, if_false] at hpa hwe hJ
        have hz : (List.replicate 16 (0 : Int)).length = 16 := rfl
        have hJ0 : J = [] := by simpa using hJ
        subst hJ0
        have hsame := snap_Same (List.replicate 16 0) hz [] [] rfl (by simp) (by simp) (by simp) [] (by simp) (by simp) wi we .nilsl .nilsl hwi .nil hwe .nil H
        have e0 : GV.agg (snC (List.replicate 16 0) .nilsl .nilsl) = .agg sn0 := rfl
        rw [e0] at hsame
        have sl := sn_len hz wi we
        have s18 : List.take 18 (snC (List.replicate 16 0) wi we) = snC (List.replicate 16 0) wi we := List.take_of_length_le (by rw [sl]; exact Nat.le_refl _)
        have hon : (snC (List.replicate 16 0) wi we).all GV.one = true := by simp [snC, hwi.one, hwe.one]
        have hset : setPart sn0 0 (snC (List.replicate 16 0) wi we) = some (snC (List.replicate 16 0) wi we) := by simp only [setPart, sl]; simp [sl]
        have hcc : pCode B = 2 ∨ pCode B = 1 := by
          unfold pCode at hc ⊢
          split
          · exact .inl rfl
          · split
            · exact .inr rfl
            · rename_i h1 h2; rw [if_neg h1, if_neg h2] at hc; exact absurd rfl hc
        generalize hS : snC (List.replicate 16 (0 : Int)) wi we = S at *
        simp only [sn0] at hset hsame
        rcases hcc with hcc | hcc
        · simp [hfx, hvl, hvu, hv.ok, h6, h6', hpa, hcc, sl, s18, hon, hset, hsame, gFill]
        · simp [hfx, hvl, hvu, hv.ok, h6, h6', hpa, hcc, sl, s18, hon, hset, hsame, gFill]
  obtain ⟨r, h1, H', rfl⟩ := key
  exact ⟨H', h1⟩
end Go.Proofs.YthbhfipgdinihaaGreatDoor
