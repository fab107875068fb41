/- Own work: the shadow machine and what it shows, part En. -/
import Derived.Test.YthmplnbogdfajaaGreatDoorPu
set_option linter.all false

namespace Go.Proofs.YthmplnbogdfajaaGreatDoor
open Go.Sh
set_option maxRecDepth 100000

/-- What a map has of an element. -/
def Has (es : List (GV × GV)) (x : El) (L : List Ent) : Prop := (mapGet es (elG x) = none ∧ L = []) ∨ ∃ v, mapGet es (elG x) = some v ∧ Elems 5 v (L.map entG)

theorem Has.get {es : List (GV × GV)} {x : El} {L : List Ent} (h : Has es x L) : Elems 5 ((mapGet es (elG x)).getD .nilsl) (L.map entG) := by
  rcases h with ⟨h, rfl⟩ | ⟨v, h, hv⟩
  · rw [h]; exact .nil
  · rw [h]; exact hv

theorem geff_freeze {call : Nat → List GV → GH → Option (GV × GH)} {l : List GV} {g : Nat} {H : GH} (args : List GV) : geff call .freeze args ⟨l, g⟩ H = callK (gFreeze H args) g := rfl
theorem freeze_nil (H : GH) : gFreeze H [.nilsl] = some (.nilsl, H) := rfl

theorem store_Entries {H : GH} {s m : Nat} {es : List (GV × GV)} (hs : SAt H s m es) (x : El) (hx : ElFit x) (hr : ElRange x) (L : List Ent) (hL : L.length ≤ 1000000) (hv : Has es x L) (hbo : H.bo ≤ H.objs.length) :
    ∃ v', ecall T f_store_Store_Entries [.ptr s 0, elG x] H = some (v', killH L H) ∧ Elems 5 v' (L.map entG) := by
  obtain ⟨h1, h2, h3⟩ := hs
  have hk := el_key hx hr
  obtain ⟨w, c1, c2⟩ := clone_ent L _ hv.get hL H
  obtain ⟨v', hf, hE⟩ := freeze_ent c2 hbo
  refine ⟨v', ?_, hE⟩
  have hok' : w.ok = true := by rcases c2.elems with ⟨_, h⟩ | ⟨_, h⟩; exact h.ok; subst h; rfl
  have hu' : ∀ t, unbox t w = w := by rcases c2.elems with ⟨_, h⟩ | ⟨_, h⟩; exact elemsUnbox h; subst h; exact fun _ => rfl
  have gok := hv.get.ok
  have gu := elemsUnbox hv.get
  have vok := hE.ok
  have vu := elemsUnbox hE
  apply optW.eq
  rw [ecall_0 T_store_Store_Entries rfl (by simp [F_store_Store_Entries]), wp_fin1]
  simp only [elG, elC] at hk c1 gok gu
  simp [F_store_Store_Entries, b_store_Store_Entries, elC, h1, h2, hk, c1, hok', hu', hf, gok, gu, vok, vu, geff_freeze, freeze_nil]
end Go.Proofs.YthmplnbogdfajaaGreatDoor

namespace Go.Proofs.YthmplnbogdfajaaGreatDoor
open Go.Sh
set_option maxRecDepth 100000

/-! ## Maps of elements -/

theorem elG_inj {x y : El} (h : elG x = elG y) : x = y := by
  obtain ⟨k, a, b, c, d⟩ := x
  obtain ⟨k', a', b', c', d'⟩ := y
  simp only [elC, GV.agg.injEq, List.cons.injEq, GV.int.injEq, GV.str.injEq, and_true, true_and] at h
  obtain ⟨h1, h2, h3, h4, h5⟩ := h
  have q : ∀ u v : List UInt8, mkB u = mkB v → u = v := fun u v h => by
    have := congrArg (fun b : ByteArray => b.data.toList) h
    simpa [mkB_data] using this
  rw [h1, q _ _ h2, q _ _ h3, q _ _ h4, q _ _ h5]

def Keys (es : List (GV × GV)) : Prop := ∀ p ∈ es, keyOk true kLs p.1 = true

theorem put_keys {es : List (GV × GV)} (h : Keys es) {k : GV} (hk : keyOk true kLs k = true) (v : GV) : Keys (mapPut es k v) := by
  intro p hp
  unfold mapPut at hp
  split at hp
  · obtain ⟨q, hq, rfl⟩ := List.mem_map.1 hp
    split
    · exact hk
    · exact h q hq
  · rcases List.mem_append.1 hp with hp | hp
    · exact h p hp
    · rw [List.mem_singleton] at hp; subst hp; exact hk
theorem del_keys {es : List (GV × GV)} (h : Keys es) (k : GV) : Keys (mapDel es k) := fun p hp => h p (List.mem_filter.1 hp).1

theorem key_self {k : GV} (hk : keyOk true kLs k = true) : keyEq k k = true := (keyEq_iff hk hk).2 rfl

theorem get_put {es : List (GV × GV)} {k : GV} (hk : keyOk true kLs k = true) (v : GV) : mapGet (mapPut es k v) k = some v := by
  unfold mapGet mapPut
  split
  · rename_i h
    induction es with
    | nil => simp at h
    | cons p es ih =>
      rw [List.map_cons, List.find?_cons]
      cases hp : keyEq p.1 k with
      | true => simp [key_self hk]
      | false =>
        simp only [hp, Bool.false_eq_true, if_false]
        simp only [List.any_cons, hp, Bool.false_or] at h
        exact ih h
  · rename_i h
    rw [List.find?_append]
    have : es.find? (fun p => keyEq p.1 k) = none := by
      rw [List.find?_eq_none]
      intro q hq hqk
      exact h (List.any_eq_true.2 ⟨q, hq, hqk⟩)
    rw [this]
    simp [key_self hk]

theorem get_put_ne {es : List (GV × GV)} (h : Keys es) {k k' : GV} (hk : keyOk true kLs k = true) (hk' : keyOk true kLs k' = true) (hne : k ≠ k') (v : GV) : mapGet (mapPut es k v) k' = mapGet es k' := by
  have hkk : keyEq k k' = false := by
    rw [Bool.eq_false_iff]; exact fun e => hne ((keyEq_iff hk hk').1 e)
  unfold mapGet mapPut
  congr 1
  split
  · rename_i hany
    clear hany
    induction es with
    | nil => rfl
    | cons p es ih =>
      rw [List.map_cons, List.find?_cons, List.find?_cons, ih fun q hq => h q (by simp [hq])]
      cases hp : keyEq p.1 k with
      | false => simp
      | true =>
        have e := (keyEq_iff (h p (by simp)) hk).1 hp
        have : keyEq p.1 k' = false := by rw [e]; exact hkk
        simp [hkk, this]
  · rw [List.find?_append]
    simp [hkk]

theorem get_del {es : List (GV × GV)} (k : GV) : mapGet (mapDel es k) k = none := by
  unfold mapGet mapDel
  rw [Option.map_eq_none_iff, List.find?_eq_none]
  intro p hp
  have := (List.mem_filter.1 hp).2
  simpa using this

theorem get_del_ne {es : List (GV × GV)} (h : Keys es) {k k' : GV} (hk : keyOk true kLs k = true) (hk' : keyOk true kLs k' = true) (hne : k ≠ k') : mapGet (mapDel es k) k' = mapGet es k' := by
  unfold mapGet mapDel
  congr 1
  induction es with
  | nil => rfl
  | cons p es ih =>
    have ih' := ih fun q hq => h q (by simp [hq])
    rw [List.filter_cons, List.find?_cons]
    cases hp : keyEq p.1 k with
    | false => simp only [Bool.not_false, if_true]; rw [List.find?_cons, ih']
    | true =>
      have e := (keyEq_iff (h p (by simp)) hk).1 hp
      have : keyEq p.1 k' = false := by
        rw [Bool.eq_false_iff, e]; exact fun e => hne ((keyEq_iff hk hk').1 e)
      simp only [Bool.not_true, Bool.false_eq_true, if_false, this]
      exact ih'

/-- Both maps have the same, element by element. -/
def Both (es es2 : List (GV × GV)) : Prop := ∀ x : El, ElFit x → ElRange x → ∃ L : List Ent, L.length ≤ 20 ∧ Has es x L ∧ Has es2 x L

theorem both_nil : Both [] [] := fun _ _ _ => ⟨[], by simp, .inl ⟨rfl, rfl⟩, .inl ⟨rfl, rfl⟩⟩

theorem lay_keys {es : List (GV × GV)} (h : Keys es) {x : El} (hx : ElFit x) (hr : ElRange x) (L : List Ent) (v : GV) : Keys (layM es x L v) := by
  unfold layM
  split
  · exact del_keys h _
  · exact put_keys h (el_key hx hr) v

theorem both_lay {es es2 : List (GV × GV)} (h : Both es es2) (k1 : Keys es) (k2 : Keys es2) {x : El} (hx : ElFit x) (hr : ElRange x) (L : List Ent) (hL : L.length ≤ 20) {v w : GV} (hv : Elems 5 v (L.map entG)) (hw : Elems 5 w (L.map entG)) :
    Both (layM es x L v) (mapPut es2 (elG x) w) := by
  intro y hy hyr
  have hkx := el_key hx hr
  have hky := el_key hy hyr
  by_cases hxy : x = y
  · subst hxy
    refine ⟨L, hL, ?_, .inr ⟨w, get_put hkx w, hw⟩⟩
    unfold layM
    split
    · rename_i h0; exact .inl ⟨get_del _, h0⟩
    · exact .inr ⟨v, get_put hkx v, hv⟩
  · obtain ⟨M, hM, m1, m2⟩ := h y hy hyr
    have hne : elG x ≠ elG y := fun e => hxy (elG_inj e)
    refine ⟨M, hM, ?_, ?_⟩
    · unfold Has
      have : mapGet (layM es x L v) (elG y) = mapGet es (elG y) := by
        unfold layM
        split
        · exact get_del_ne k1 hkx hky hne
        · exact get_put_ne k1 hkx hky hne v
      rw [this]; exact m1
    · unfold Has
      rw [get_put_ne k2 hkx hky hne w]; exact m2
end Go.Proofs.YthmplnbogdfajaaGreatDoor

namespace Go.Proofs.YthmplnbogdfajaaGreatDoor
open Go.Sh
set_option maxRecDepth 100000

/-! ## Where an entry belongs -/

structure Cut (L : List Ent) (x : Ent) (i : Nat) : Prop where
  le : i ≤ L.length
  lo : ∀ k, k < i → ordD (L.getD k default) x < 0
  hi : ∀ k, i ≤ k → k < L.length → ¬ ordD (L.getD k default) x < 0

/-- Those that come first stand ahead. -/
def Split (L : List Ent) (x : Ent) : Prop := ∀ k k', k ≤ k' → k' < L.length → ordD (L.getD k' default) x < 0 → ordD (L.getD k default) x < 0

theorem half_shr {i j : Nat} (h : i + j ≤ 2000000) : gShift .shr .u64 (IntKind.u64.wrap ((i : Int) + j)) 1 = some (.int .u64 (((i + j) / 2 : Nat) : Int)) := by
  have h1 : IntKind.u64.wrap ((i : Int) + j) = ((i + j : Nat) : Int) := by
    simp [IntKind.wrap, IntKind.bits, IntKind.signed]; omega
  rw [h1]
  have h2 : IntKind.u64.wrap ((((i + j : Nat) : Int)) / 2) = (((i + j) / 2 : Nat) : Int) := by
    simp [IntKind.wrap, IntKind.bits, IntKind.signed]; omega
  simp [gShift, IntKind.bits]
  rw [Int.fdiv_eq_ediv_of_nonneg _ (by decide)]

set_option maxHeartbeats 4000000 in
theorem bin_loop (L : List Ent) (hL : L.length ≤ 1000000) (x : Ent) (hs : Split L x) (v : GV) (hv : Elems 5 v (L.map entG)) (l0 : List GV) (g0 gb : Nat) (H0 : GH) (K : GExit × St → Prop)
    (h0 : lget l0 0 = v) (h2 : lget l0 2 = .func 37 [] []) (h4 : lget l0 4 = .lbox gb (entC x)) (h9 : lget l0 9 = .int .i64 0) (h10 : lget l0 10 = .int .i64 L.length)
    (he : ∀ l g i, Cut L x i → lget l 9 = .int .i64 i → lget l 4 = .lbox gb (entC x) → Fr L0_slices_BinarySearchFuncstore_Entrystore_Entrystore_Entry l0 l → K (.exit 0, ⟨⟨l, g⟩, H0⟩)) :
    optW (erun T (.loop L0_slices_BinarySearchFuncstore_Entrystore_Entrystore_Entry) ⟨⟨l0, g0⟩, H0⟩) K := by
  refine while_loop (l0 := l0) (fun m l g H => H = H0 ∧ lget l 4 = .lbox gb (entC x) ∧ ∃ i j : Nat, m = j - i ∧ i ≤ j ∧ j ≤ L.length ∧ lget l 9 = .int .i64 i ∧ lget l 10 = .int .i64 j ∧ (∀ k, k < i → ordD (L.getD k default) x < 0) ∧ (∀ k, j ≤ k → k < L.length → ¬ ordD (L.getD k default) x < 0)) ?_ L.length l0 g0 H0 ⟨rfl, h4, 0, L.length, rfl, Nat.zero_le _, Nat.le_refl _, h9, h10, fun k h => absurd h (Nat.not_lt_zero k), fun k h h' => absurd h' (by omega)⟩ (.refl _ _ _)
  intro m l g H ⟨hH, q4, i, j, hm, hij, hjn, q9, q10, lo, hi⟩ hf
  subst hH
  have q0 := hf.get 0 rfl h0 (by simp [hv.boxy])
  have q2 := hf.get 2 rfl h2 (by simp [GV.boxy])
  simp only [entC] at q4
  by_cases hlt : i < j
  · have hlt' : (i : Int) < j := by omega
    have hh : (i + j) / 2 < L.length := by omega
    obtain ⟨lt, ix, opt, get, ⟨t, sl⟩, wr_, mem⟩ := at_ok (e := entG) hv hh (by omega)
    generalize L[(i + j) / 2]'hh = e at opt get mem
    have hgd : L.getD ((i + j) / 2) default = e := by simp [List.getD, opt]
    have hc := half_shr (i := i) (j := j) (by omega)
    have hc2 : IntKind.i64.wrap (((i + j) / 2 : Nat) : Int) = (((i + j) / 2 : Nat) : Int) := wrap_i64' (by omega) (by omega)
    have hc3 : IntKind.i64.wrap ((((i + j) / 2 : Nat) : Int) + 1) = ((((i + j) / 2 : Nat) : Int) + 1) := wrap_i64' (by omega) (by omega)
    generalize hq : (i + j) / 2 = q at *
    have hw : IntKind.i64.wrap ((i : Int) + j) = ((i + j : Nat) : Int) := by rw [wrap_i64' (by omega) (by omega)]; omega
    have hbd := fun H => store_byDot e x H
    simp only [entC] at hbd
    rw [sl] at q0
    have lo' : ∀ k, k < i → ordD (L[k]?.getD default) x < 0 := fun k hk => by rw [← List.getD_eq_getElem?_getD]; exact lo k hk
    have hi' : ∀ k, j ≤ k → k < L.length → 0 ≤ ordD (L[k]?.getD default) x := fun k hk hk' => by rw [← List.getD_eq_getElem?_getD]; have := hi k hk hk'; omega
    by_cases ho : ordD e x < 0
    · simp [L0_slices_BinarySearchFuncstore_Entrystore_Entrystore_Entry, q0, q2, q4, q9, q10, hlt', hw, hc, hc2, hc3, ix, opt, entC, hbd, ho]
      refine ⟨j - (q + 1), by omega, q + 1, j, rfl, by omega, hjn, by simp, rfl, fun k hk => ?_, hi'⟩
      rw [← List.getD_eq_getElem?_getD]
      exact hs k q (by omega) hh (by rw [hgd]; exact ho)
    · have ho' : 0 ≤ ordD e x := by omega
      simp [L0_slices_BinarySearchFuncstore_Entrystore_Entrystore_Entry, q0, q2, q4, q9, q10, hlt', hw, hc, hc2, hc3, ix, opt, entC, hbd, ho]
      refine ⟨q - i, by omega, i, q, rfl, by omega, by omega, rfl, rfl, lo', fun k hk hk' => ?_⟩
      rcases Nat.lt_or_ge k j with hkj | hkj
      · have : ¬ ordD (L.getD k default) x < 0 := fun hc => ho (by rw [← hgd]; exact hs q k hk hk' hc)
        rw [← List.getD_eq_getElem?_getD]; omega
      · exact hi' k hkj hk'
  · have hlt' : ¬ (i : Int) < j := by omega
    have hij' : i = j := by omega
    subst hij'
    simp [L0_slices_BinarySearchFuncstore_Entrystore_Entrystore_Entry, q9, q10]
    exact fun hf' => he _ _ i ⟨hjn, lo, hi⟩ (by simp [q9]) (by simp [q4, entC]) hf'

set_option maxHeartbeats 4000000 in
theorem bin_search (L : List Ent) (hL : L.length ≤ 1000000) (x : Ent) (hs : Split L x) (v : GV) (hv : Elems 5 v (L.map entG)) (H : GH) :
    ∃ (i : Nat) (b : Bool), Cut L x i ∧ ecall T f_slices_BinarySearchFuncstore_Entrystore_Entrystore_Entry [v, entG x, .func 37 [] []] H = some (.tup [.int .i64 i, .bool b], H) := by
  have key : optW (ecall T f_slices_BinarySearchFuncstore_Entrystore_Entrystore_Entry [v, entG x, .func 37 [] []] H) fun r => ∃ (i : Nat) (b : Bool), Cut L x i ∧ r = (.tup [.int .i64 i, .bool b], H) := by
    rw [ecall_0 T_slices_BinarySearchFuncstore_Entrystore_Entrystore_Entry rfl (by simp [F_slices_BinarySearchFuncstore_Entrystore_Entrystore_Entry]), wp_fin1]
    simp only [F_slices_BinarySearchFuncstore_Entrystore_Entrystore_Entry, b_slices_BinarySearchFuncstore_Entrystore_Entrystore_Entry]
    have hle := hv.len
    have hue := elemsUnbox hv
    have hok := hv.ok
    simp only [List.length_map] at hle
    simp [hle, hue, hok]
    rw [wp_seqK, wp_blockK]
    refine bin_loop L hL x hs v hv _ _ 0 H _ (by simp [hue]) (by simp) (by simp) (by simp) (by simp) ?_
    intro l g i hc h9 h4 hf
    have q0 := hf.get 0 rfl (v := v) (by simp [hue]) (by simp [hv.boxy])
    have q2 := hf.get 2 rfl (v := .func 37 [] []) (by simp) (by simp [GV.boxy])
    have q8 := hf.get 8 rfl (v := .int .i64 L.length) (by simp) (by simp [GV.boxy])
    simp only [entC] at h4
    by_cases hlt : i < L.length
    · have hlt' : (i : Int) < L.length := by omega
      obtain ⟨lt, ix, opt, get, ⟨t, sl⟩, wr_, mem⟩ := at_ok (e := entG) hv hlt (by omega)
      generalize L[i]'hlt = e at opt get mem
      have hbd := fun H => store_byDot e x H
      simp only [entC] at hbd
      rw [sl] at q0
      simp [q0, q2, q8, h9, h4, hlt', ix, opt, entC, hbd]
      exact ⟨i, hc, by by_cases h0 : ordD e x = 0 <;> simp [h0]⟩
    · have hlt' : ¬ (i : Int) < L.length := by omega
      simp [q0, q2, q8, h9, h4, hlt']
      exact ⟨i, hc, rfl⟩
  obtain ⟨⟨r, H'⟩, h1, i, b, hc, h2⟩ := key
  exact ⟨i, b, hc, by rw [h1, h2]⟩
end Go.Proofs.YthmplnbogdfajaaGreatDoor
