/- Own work: the shadow machine and what it shows, part Pu. -/
import Derived.Test.YthmplnbogdfajaaGreatDoorEv
set_option linter.all false
namespace Go.Proofs.YthmplnbogdfajaaGreatDoor
open Go.Sh
set_option maxRecDepth 100000
abbrev kLs : List Leaf := [.int .i64, .str, .str, .str, .str]
abbrev elG (x : El) : GV := .agg (elC x)
abbrev entG (x : Ent) : GV := .agg (entC x)
structure ElRange (x : El) : Prop where
  k1 : -9223372036854775808 ≤ x.k
  k2 : x.k ≤ 9223372036854775807
theorem el_key {x : El} (h : ElFit x) (hr : ElRange x) : keyOk true kLs (elG x) = true := by
  obtain ⟨h1, h2⟩ := hr
  have := h.a; have := h.b; have := h.c; have := h.d
  simp [keyOk, elC, keyFits, maxLen, IntKind.min, IntKind.max, IntKind.signed, IntKind.bits]
  omega
structure EntFit (x : Ent) : Prop where
  n1 : -9223372036854775808 ≤ x.n
  n2 : x.n ≤ 9223372036854775807
theorem store_New (H : GH) : ecall T f_x62 [] H = some (.ptr (H.objs.length + 1) 0, { H with objs := H.objs ++ [.map true kLs [], .cells 75 [.map H.objs.length]] }) := by
  apply optW.eq
  rw [ecall_0 T_x62 rfl (by simp [F_x62]), wp_fin1]
  simp [F_x62, b_x62, gFill, setPart, GH.newObj]
def entryB (x : El) (e : Ent) : Bool := dotB e.r e.c && mayB (if x.k = 4 ∨ x.k = 5 then 3 else 1) x e.k e.n e.t
theorem store_entry (x : El) (e : Ent) (hx : ElFit x) (he : EntFit e) (H : GH) : ecall T f_x72 [elG x, entG e] H = some (.bool (entryB x e), H) := by
  have hd := fun H => vector_Dot e.r e.c H
  have hc := fun op H => event_Change op x e.k e.n e.t hx he.n1 he.n2 H
  simp only [chC, elC, List.cons_append, List.nil_append] at hc
  apply optW.eq
  rw [ecall_0 T_x72 rfl (by simp [F_x72]), wp_fin1]
  unfold entryB
  cases h1 : dotB e.r e.c with
  | false =>
    rw [h1] at hd
    by_cases k4 : x.k = 4
    · simp [F_x72, b_x72, elC, entC, hd, k4]
    · by_cases k5 : x.k = 5 <;> simp [F_x72, b_x72, elC, entC, hd, k4, k5]
  | true =>
    rw [h1] at hd
    by_cases k4 : x.k = 4
    · have hc' := hc 3
      simp only [k4] at hc'
      cases hm : mayB 3 x e.k e.n e.t <;> rw [hm] at hc' <;> simp [F_x72, b_x72, elC, entC, hd, k4, hc', gFill, setPart, hm]
    · by_cases k5 : x.k = 5
      · have hc' := hc 3
        simp only [k5] at hc'
        cases hm : mayB 3 x e.k e.n e.t <;> rw [hm] at hc' <;> simp [F_x72, b_x72, elC, entC, hd, k4, k5, hc', gFill, setPart, hm]
      · have hc' := hc 1
        cases hm : mayB 1 x e.k e.n e.t <;> rw [hm] at hc' <;> simp [F_x72, b_x72, elC, entC, hd, k4, k5, hc', gFill, setPart, hm]
def rowE (L : List Ent) : List GV := (L.map entG).flatMap GV.cells
def cloneH (L : List Ent) (H : GH) : GH := if L = [] then H else { H with objs := H.objs ++ [.row 56 (rowE L)] }
def CloneV (L : List Ent) (H : GH) (v' : GV) : Prop := (L = [] ∧ (v' = .nilsl ∨ v' = .sl 5 [] .exact)) ∨ (L ≠ [] ∧ v' = .hsl H.objs.length 0 L.length 5 false)
theorem CloneV.elems {L : List Ent} {H : GH} {v' : GV} (h : CloneV L H v') : (L = [] ∧ Elems 5 v' []) ∨ (L ≠ [] ∧ v' = .hsl H.objs.length 0 L.length 5 false) := by
  rcases h with ⟨h, rfl | rfl⟩ | h
  · exact .inl ⟨h, .nil⟩
  · exact .inl ⟨h, .sl _ _⟩
  · exact .inr h
def killH (L : List Ent) (H : GH) : GH := if L = [] then H else { H with objs := H.objs ++ [.dead] }
theorem clone_ent (L : List Ent) (v : GV) (hv : Elems 5 v (L.map entG)) (hL : L.length ≤ 1000000) (H : GH) :
    ∃ v', ecall T f_x37 [v] H = some (v', cloneH L H) ∧ CloneV L H v' := by
  have key : optW (ecall T f_x37 [v] H) fun r => CloneV L H r.1 ∧ r.2 = cloneH L H := by
    rw [ecall_0 T_x37 rfl (by simp [F_x37]), wp_fin1]
    cases L with
    | nil =>
      generalize hz : ([] : List Ent).map entG = z at hv
      cases hv with
      | nil => 
        simp [F_x37, b_x37]
        exact ⟨.inl ⟨rfl, .inl rfl⟩, rfl⟩
      | sl xs t =>
        simp at hz; subst hz
        simp [F_x37, b_x37, gSetAll, gAppendN, gNews]
        exact ⟨.inl ⟨rfl, .inr (by simp [cutTag])⟩, rfl⟩
    | cons y L =>
      generalize hz : (y :: L).map entG = z at hv
      cases hv with
      | nil => cases hz
      | sl xs t =>
        subst hz
        have h1 : (((y :: L).map entG).length * 48 ≤ room ∧ ((y :: L).map entG).length ≤ maxLen) := by
          simp only [List.length_map]
          simp only [List.length_cons] at hL
          simp [room, maxLen]; omega
        have ha : gAppendN H 56 5 48 (.sl 5 [] .exact) (.sl 5 ((y :: L).map entG) t) = some (.hsl H.objs.length 0 ((y :: L).map entG).length 5 false, H.newObj (.row 56 (((y :: L).map entG).flatMap GV.cells))) := by
          simp only [gAppendN, gNews, if_true, Option.bind_some]
          rw [if_neg (by simp), if_neg (by simp), if_pos (by simp), if_pos h1]
        simp only [List.map_cons] at ha
        simp [F_x37, b_x37, gSetAll, ha]
        exact ⟨.inr ⟨by simp, by simp⟩, by simp [cloneH, GH.newObj, rowE]⟩
  obtain ⟨⟨v', H'⟩, h1, h2, h3⟩ := key
  simp only at h3
  subst h3
  exact ⟨v', h1, h2⟩
theorem rowE_len (L : List Ent) : (rowE L).length = L.length * 5 := by
  induction L with
  | nil => rfl
  | cons e L ih => simp [rowE] at ih ⊢; simp [entC, ih]; omega
theorem rowE_one (L : List Ent) : (rowE L).all GV.one = true := by
  induction L with
  | nil => rfl
  | cons e L ih => simp [rowE] at ih ⊢; refine ⟨?_, ih⟩; simp [entC, GV.one]
theorem rowE_chunks (L : List Ent) : chunks 5 L.length (rowE L) = L.map entG := by
  induction L with
  | nil => rfl
  | cons e L ih =>
    have : rowE (e :: L) = entC e ++ rowE L := by simp [rowE]
    rw [this]
    simp only [List.length_cons, chunks, List.map_cons]
    have e1 : (entC e ++ rowE L).take 5 = entC e := by simp [entC]
    have e2 : (entC e ++ rowE L).drop 5 = rowE L := by simp [entC]
    rw [e1, e2, ih]
    rfl
theorem set_last {α : Type} (l : List α) (x y : α) : (l ++ [x]).set l.length y = l ++ [y] := by
  induction l with
  | nil => rfl
  | cons a l ih => simp
theorem freeze_ent {L : List Ent} {H : GH} {v' : GV} (h : CloneV L H v') (hbo : H.bo ≤ H.objs.length) : ∃ v'', gFreeze (cloneH L H) [v'] = some (v'', killH L H) ∧ Elems 5 v'' (L.map entG) := by
  rcases h with ⟨rfl, rfl | rfl⟩ | ⟨h, rfl⟩
  · exact ⟨_, rfl, .nil⟩
  · exact ⟨_, rfl, .sl _ _⟩
  · refine ⟨.sl 5 (L.map entG) .imm, ?_, .sl _ _⟩
    have h1 : (cloneH L H).objs[H.objs.length]? = some (.row 56 (rowE L)) := by simp [cloneH, h]
    have h2 : (cloneH L H).bo = H.bo := by simp [cloneH, h]
    simp only [gFreeze, h1, h2]
    have hl := rowE_len L
    have ho : ((List.take (L.length * 5) (List.drop 0 (rowE L))).all GV.one) = true := by
      rw [List.drop_zero, ← hl, List.take_length]; exact rowE_one L
    rw [if_pos ⟨hbo, by decide, by omega, ho⟩, List.drop_zero, rowE_chunks]
    simp [cloneH, killH, h, set_last]
structure SAt (H : GH) (s m : Nat) (es : List (GV × GV)) : Prop where
  os : H.objs[s]? = some (.cells 75 [.map m])
  om : H.objs[m]? = some (.map true kLs es)
  bo : H.bo ≤ m
def layM (es : List (GV × GV)) (x : El) (L : List Ent) (v : GV) : List (GV × GV) := if L = [] then mapDel es (elG x) else mapPut es (elG x) v
theorem store_lay {H : GH} {s m : Nat} {es : List (GV × GV)} (hs : SAt H s m es) (hm : m < H.objs.length) (x : El) (hx : ElFit x) (hr : ElRange x) (L : List Ent) (v : GV) (hv : CloneV L H v) (hbo : H.bo ≤ H.objs.length) :
    ∃ v', ecall T f_x70 [.ptr s 0, elG x, v] (cloneH L H) = some (.tup [], { killH L H with objs := (killH L H).objs.set m (.map true kLs (layM es x L v')) }) ∧ Elems 5 v' (L.map entG) := by
  obtain ⟨h1, h2, h3⟩ := hs
  have hk0 := el_key hx hr
  have hk := el_key hx hr
  have hslt : s < H.objs.length := (List.getElem?_eq_some_iff.1 h1).1
  obtain ⟨v', hf, hE⟩ := freeze_ent hv hbo
  refine ⟨v', ?_, hE⟩
  simp only [elG, elC] at hk
  apply optW.eq
  rw [ecall_0 T_x70 rfl (by simp [F_x70]), wp_fin1]
  unfold layM
  have hv0 := hv.elems
  clear hv
  rcases hv0 with ⟨rfl, hv⟩ | ⟨hne, rfl⟩
  · have hl := hv.len
    have hu := elemsUnbox hv
    have hok := hv.ok
    simp at hl
    simp [F_x70, b_x70, elC, hl, hu, cloneH, killH, h1, h2, h3, hk]
    rfl
  · have hn : ¬ ((L.length : Int) = 0) := by have : L.length ≠ 0 := by simpa using hne
                                             omega
    have c1 : (cloneH L H).objs[s]? = some (.cells 75 [.map m]) := by simp [cloneH, hne, List.getElem?_append_left hslt, h1]
    have k1 : (killH L H).objs[m]? = some (.map true kLs es) := by simp [killH, hne, List.getElem?_append_left hm, h2]
    have k2 : (killH L H).bo = H.bo := by simp [killH, hne]
    have ok' := hE.ok
    simp [F_x70, b_x70, elC, c1, hn]
    simp [c1, hf, k1, k2, h3, ok', hk, hne]
    rfl
theorem store_lay2 {H : GH} {s m : Nat} {es : List (GV × GV)} (hs : SAt H s m es) (x : El) (hx : ElFit x) (hr : ElRange x) (L : List Ent) (v : GV) (hv : Elems 5 v (L.map entG)) :
    ecall T f_x70 [.ptr s 0, elG x, v] H = some (.tup [], { H with objs := H.objs.set m (.map true kLs (layM es x L v)) }) := by
  obtain ⟨h1, h2, h3⟩ := hs
  have hk := el_key hx hr
  simp only [elG, elC] at hk
  apply optW.eq
  rw [ecall_0 T_x70 rfl (by simp [F_x70]), wp_fin1]
  unfold layM
  have hl := hv.len
  have hu := elemsUnbox hv
  have hok := hv.ok
  simp only [List.length_map] at hl
  by_cases hL : L = []
  · subst hL
    simp at hl
    simp [F_x70, b_x70, elC, hl, hu, h1, h2, h3, hk]
    rfl
  · have hn : ¬ ((L.length : Int) = 0) := by
      have : L.length ≠ 0 := by simpa using hL
      omega
    generalize hz : L.map entG = z at *
    cases hv with
    | nil => exact absurd (List.map_eq_nil_iff.1 hz) hL
    | sl xs t =>
      simp [F_x70, b_x70, elC, hl, hn, hL, h1, h2, h3, hk, hok]
      rfl
instance : Inhabited Ent := ⟨⟨0, 0, 0, 0, []⟩⟩
def okAt (x : El) (L : List Ent) (i : Nat) : Bool := entryB x (L.getD i default) && (decide (i = 0) || decide (ordD (L.getD (i - 1) default) (L.getD i default) < 0))
def okPutB (x : El) (L : List Ent) : Bool := elemV x.k x.a x.b x.c x.d && (List.range L.length).all (okAt x L)
theorem range_all_succ (p : Nat → Bool) (i : Nat) : (List.range (i + 1)).all p = ((List.range i).all p && p i) := by
  rw [List.range_succ, List.all_append]; simp
def itemC (x : El) (v : GV) : List GV := elC x ++ [v]
end Go.Proofs.YthmplnbogdfajaaGreatDoor
namespace Go.Proofs.YthmplnbogdfajaaGreatDoor
open Go.Sh
set_option maxRecDepth 100000
theorem store_Put {H : GH} {s m : Nat} {es : List (GV × GV)} (hs : SAt H s m es) (x : El) (hx : ElFit x) (hr : ElRange x) (L : List Ent) (hL : L.length ≤ 100000) (hfit : ∀ e ∈ L, EntFit e) (v : GV) (hv : Elems 5 v (L.map entG)) (hm : m < H.objs.length) (hbo : H.bo ≤ H.objs.length) :
    ∃ H', ecall T f_x69 [.ptr s 0, .agg (itemC x v)] H = some (.int .i64 (if okPutB x L then 0 else 1), H') ∧
      ((okPutB x L = false ∧ H' = H) ∨ (okPutB x L = true ∧ ∃ v', Elems 5 v' (L.map entG) ∧ H' = { killH L H with objs := (killH L H).objs.set m (.map true kLs (layM es x L v')) })) := by
  have he := fun H => value_Elem x.k x.a x.b x.c x.d (by have := hx.a; omega) (by have := hx.b; omega) (by have := hx.c; omega) (by have := hx.d; omega) H
  have hl := hv.len
  have hu := elemsUnbox hv
  have hok := hv.ok
  have hone := hv.one
  have hcel := hv.cells
  have key : optW (ecall T f_x69 [.ptr s 0, .agg (itemC x v)] H) fun r => r.1 = .int .i64 (if okPutB x L then 0 else 1) ∧
      ((okPutB x L = false ∧ r.2 = H) ∨ (okPutB x L = true ∧ ∃ v', Elems 5 v' (L.map entG) ∧ r.2 = { killH L H with objs := (killH L H).objs.set m (.map true kLs (layM es x L v')) })) := by
    rw [ecall_0 T_x69 rfl (by simp [F_x69]), wp_fin1]
    simp only [F_x69, b_x69]
    cases hel : elemV x.k x.a x.b x.c x.d with
    | false =>
      rw [hel] at he
      simp [itemC, elC, he, okPutB, hel, hok]
    | true =>
      rw [hel] at he
      simp [itemC, elC, he, hok, hl, hu]
      rw [wp_seqK, wp_blockK]
      refine range_loop (T := T) (n := L.length) (A := Unit) (fun _ _ => [(0, .ptr s 0), (3, .lbox 0 (elC x ++ [v]))]) (fun i _ _ H' => H' = H ∧ (List.range i).all (okAt x L) = true) (c := 19) (b := 0) (I := 18) (N := 17) (d := 43) rfl (by omega) (by decide) ⟨rfl, rfl⟩ (by simp) ?_ ?_ 0 () _ _ H (by omega) ⟨rfl, rfl⟩ (by simp [elC]) (.refl _ _ _) (by simp) (by simp)
      · intro i a l g H' hi ⟨hH, hall⟩ hh hf hI
        subst hH
        have h16 := hf.get 16 rfl (v := v) (by simp [hu]) (by simp [hv.boxy])
        obtain ⟨lt, ix, opt, get, ⟨t, sl⟩, wr_, mem⟩ := at_ok (e := entG) hv hi (by omega)
        generalize L[i]'hi = e at opt get mem
        have hgd : L.getD i default = e := by simp [List.getD, opt]
        have hen := fun H => store_entry x e hx (hfit e mem) H
        simp only [elG, entG, elC, entC] at hen
        simp only [Holds_cons, Holds_nil, and_true, elC] at hh
        obtain ⟨hh0, hh3⟩ := hh
        have hbad : okAt x L i = false → okPutB x L = false := fun h => by
          have : (List.range L.length).all (okAt x L) = false := by
            rw [Bool.eq_false_iff]; intro h'
            rw [List.all_eq_true.1 h' i (List.mem_range.2 hi)] at h; cases h
          simp [okPutB, this]
        rw [sl] at h16
        cases hb : entryB x e with
        | false =>
          rw [hb] at hen
          have hp := hbad (by simp only [okAt, hgd, hb, Bool.false_and])
          simp [h16, hI, hh0, hh3, ix, opt, get, entC, setPart, hen, hp]
        | true =>
          rw [hb] at hen
          rcases Nat.eq_zero_or_pos i with rfl | hpos
          · have hk : okAt x L 0 = true := by simp only [okAt, hgd, hb]; rfl
            simp at hI ix
            simp [h16, hI, hh0, hh3, ix, opt, get, entC, setPart, hen]
            intro hf'
            exact ⟨by simpa using hk, by simp [elC]⟩
          · have hi1 : i - 1 < L.length := by omega
            obtain ⟨lt1, ix1, opt1, get1, _, _, _⟩ := at_ok (e := entG) hv hi1 (by omega)
            generalize L[i - 1]'hi1 = p at opt1 get1
            have hgd1 : L.getD (i - 1) default = p := by simp [List.getD, opt1]
            have hw : IntKind.i64.wrap ((i : Int) - 1) = ((i - 1 : Nat) : Int) := by rw [wrap_i64' (by omega) (by omega)]; omega
            have hbd := fun H => store_byDot p e H
            simp only [entC] at hbd
            have hpi : (0 : Int) < i := by omega
            have hko : okAt x L i = decide (ordD p e < 0) := by
              have : i ≠ 0 := by omega
              simp only [okAt, hgd, hgd1, hb, this, decide_false, Bool.false_or, Bool.true_and]
            by_cases hord : ordD p e < 0
            · have hge : ¬ (0 ≤ ordD p e) := by omega
              have hk : okAt x L i = true := by rw [hko]; simpa using hord
              have hall' : (List.range (i + 1)).all (okAt x L) = true := by rw [range_all_succ, hall, hk]; rfl
              subst sl
              simp [h16, hI, hh0, hh3, ix, opt, get, entC, setPart, hen, hpi, hpos, hw, ix1, opt1, get1, hbd, hge]
              intro hf'
              exact ⟨by simpa using hall', by simp [elC]⟩
            · have hge : 0 ≤ ordD p e := by omega
              have hp := hbad (by rw [hko]; simpa using hge)
              subst sl
              simp [h16, hI, hh0, hh3, ix, opt, get, entC, setPart, hen, hpi, hpos, hw, ix1, opt1, get1, hbd, hge, hp]
      · intro a l g H' ⟨hH, hall⟩ hh hf
        subst hH
        have hp : okPutB x L = true := by simp only [okPutB, hel, hall, Bool.and_self]
        simp only [Holds_cons, Holds_nil, and_true, elC] at hh
        obtain ⟨hh0, hh3⟩ := hh
        obtain ⟨v', c1, c2⟩ := clone_ent L v hv (by omega) H'
        obtain ⟨v2, hlay, c3⟩ := store_lay hs hm x hx hr L v' c2 hbo
        simp only [elG, elC] at hlay
        have hok' : v'.ok = true := by rcases c2.elems with ⟨_, h⟩ | ⟨_, h⟩; exact h.ok; subst h; rfl
        have hu' : ∀ t, unbox t v' = v' := by rcases c2.elems with ⟨_, h⟩ | ⟨_, h⟩; exact elemsUnbox h; subst h; exact fun _ => rfl
        simp [hh0, hh3, hu, hok, c1, hok', hu', hlay, hp]
        exact ⟨v2, c3, rfl⟩
  obtain ⟨⟨r, H'⟩, h1, h2, h3⟩ := key
  simp only at h2 h3
  exact ⟨H', by rw [h1, h2], h3⟩
end Go.Proofs.YthmplnbogdfajaaGreatDoor
