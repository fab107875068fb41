/- Own work: the shadow machine and what it shows, part PPt. -/
import Derived.Test.YthbhfipgdinihaaDoorPEl
set_option linter.all false

namespace Go.Proofs.YthbhfipgdinihaaDoor
open Go.Sh
set_option maxRecDepth 100000

/-! ## Changes -/

def vnone (k n : Int) (t : List UInt8) : Bool := decide (k = 0 ∧ n = 0 ∧ t = [])

def mayB (op : Int) (x : El) (vk vn : Int) (vt : List UInt8) : Bool :=
  elemV x.k x.a x.b x.c x.d && (if op = 1 ∨ op = 2 then vnone vk vn vt && decide (x.k < 4) else if op = 3 then decide (4 ≤ x.k) && (decide (1 ≤ vk ∧ vk ≤ 3) && rightV vk vn vt) else if op = 4 then vnone vk vn vt && decide (4 ≤ x.k) else false)

structure ElFit (x : El) : Prop where
  a : x.a.length ≤ 1048576
  b : x.b.length ≤ 1048576
  c : x.c.length ≤ 1048576
  d : x.d.length ≤ 1048576

def chC (op : Int) (x : El) (vk vn : Int) (vt : List UInt8) : List GV := .int .i64 op :: (elC x ++ [.int .i64 vk, .int .i64 vn, .str (mkB vt)])

theorem leaves_none (k n : Int) (t : List UInt8) : leavesEq [.int .i64, .int .i64, .str] [.int .i64 k, .int .i64 n, .str (mkB t)] [.int .i64 0, .int .i64 0, .str ⟨#[]⟩] = some (vnone k n t) := by
  have : vnone k n t = (decide (k = 0) && (decide (n = 0) && (decide (t = []) && true))) := by
    rw [Bool.eq_iff_iff]; simp [vnone]
  rw [this]
  by_cases h1 : k = 0 <;> by_cases h2 : n = 0 <;> by_cases h3 : t = [] <;> simp [leavesEq, h1, h2, h3]

theorem event_kept (x : El) (H : GH) : ecall T f_event_kept [.agg (elC x)] H = some (.bool (decide (x.k = 4 ∨ x.k = 5)), H) := by
  apply optW.eq
  rw [ecall_0 T_event_kept rfl (by simp [F_event_kept]), wp_fin1]
  by_cases h : x.k = 4
  · simp [F_event_kept, b_event_kept, elC, h]
  · simp [F_event_kept, b_event_kept, elC, h]

theorem event_scalar (k n : Int) (t : List UInt8) (h1 : -9223372036854775808 ≤ n) (h2 : n ≤ 9223372036854775807) (H : GH) :
    ecall T f_event_scalar [.agg [.int .i64 k, .int .i64 n, .str (mkB t)]] H = some (.bool (decide (1 ≤ k ∧ k ≤ 3) && rightV k n t), H) := by
  have hr := fun (q1 : 1 ≤ k) (q2 : k ≤ 3) H => value_Right k n (mkB t) (.inl ⟨q1, q2⟩) h1 h2 H
  simp only [mkB_data] at hr
  apply optW.eq
  rw [ecall_0 T_event_scalar rfl (by simp [F_event_scalar]), wp_fin1]
  by_cases a1 : 1 ≤ k
  · by_cases a2 : k ≤ 3
    · have hr' := hr a1 a2
      simp [F_event_scalar, b_event_scalar, a1, a2, hr']
    · simp [F_event_scalar, b_event_scalar, a1, a2]
  · simp [F_event_scalar, b_event_scalar, a1]

theorem kept_iff {x : El} (h : elemV x.k x.a x.b x.c x.d = true) : decide (x.k = 4 ∨ x.k = 5) = decide (4 ≤ x.k) ∧ (!decide (4 ≤ x.k)) = decide (x.k < 4) := by
  rcases elem_kind h with h | h | h | h | h <;> rw [h] <;> decide

theorem event_may (op : Int) (x : El) (vk vn : Int) (vt : List UInt8) (hx : ElFit x) (h1 : -9223372036854775808 ≤ vn) (h2 : vn ≤ 9223372036854775807) (H : GH) :
    ecall T f_event_may [.agg (chC op x vk vn vt)] H = some (.bool (mayB op x vk vn vt), H) := by
  have he := fun H => value_Elem x.k x.a x.b x.c x.d (by have := hx.a; omega) (by have := hx.b; omega) (by have := hx.c; omega) (by have := hx.d; omega) H
  have hk := fun H => event_kept x H
  have hs := fun H => event_scalar vk vn vt h1 h2 H
  have hn := leaves_none vk vn vt
  simp only [elC] at hk
  apply optW.eq
  rw [ecall_0 T_event_may rfl (by simp [F_event_may]), wp_fin1]
  unfold mayB
  cases hel : elemV x.k x.a x.b x.c x.d with
  | false =>
    rw [hel] at he
    simp [F_event_may, b_event_may, chC, elC, he]
  | true =>
    obtain ⟨k1, k2⟩ := kept_iff hel
    rw [hel] at he
    rw [k1] at hk
    rw [← k2]
    generalize decide (4 ≤ x.k) = kp at hk ⊢
    cases hv : vnone vk vn vt
    all_goals rw [hv] at hn
    all_goals
      by_cases o1 : op = 1
      · cases kp <;> simp [F_event_may, b_event_may, chC, elC, he, hk, hn, gFill, o1]
      by_cases o2 : op = 2
      · cases kp <;> simp [F_event_may, b_event_may, chC, elC, he, hk, hn, gFill, o2]
      by_cases o3 : op = 3
      · cases kp <;> simp [F_event_may, b_event_may, chC, elC, he, hk, hn, hs, gFill, o3]
      by_cases o4 : op = 4
      · cases kp <;> simp [F_event_may, b_event_may, chC, elC, he, hk, hn, gFill, o4]
      simp [F_event_may, b_event_may, chC, elC, he, hk, hn, gFill, o1, o2, o3, o4]

theorem event_Change (op : Int) (x : El) (vk vn : Int) (vt : List UInt8) (hx : ElFit x) (h1 : -9223372036854775808 ≤ vn) (h2 : vn ≤ 9223372036854775807) (H : GH) :
    ecall T f_event_Change [.agg (chC op x vk vn vt)] H = some (.int .i64 (if mayB op x vk vn vt then 0 else 1), H) := by
  have hm := fun H => event_may op x vk vn vt hx h1 h2 H
  simp only [chC, elC, List.cons_append, List.nil_append] at hm
  apply optW.eq
  rw [ecall_0 T_event_Change rfl (by simp [F_event_Change]), wp_fin1]
  cases hb : mayB op x vk vn vt <;> rw [hb] at hm <;> simp [F_event_Change, b_event_Change, chC, elC, hm]

theorem ref_Change (op : Int) (x : El) (vk vn : Int) (vt : List UInt8) (hx : ElFit x) (ht : vt.length ≤ 1048576) (H : GH) :
    ecall T f_hedgerowref06_Change [.agg (chC op x vk vn vt)] H = some (.bool (mayB op x vk vn vt), H) := by
  have he := fun H => ref_Elem x.k x.a x.b x.c x.d (by have := hx.a; omega) (by have := hx.b; omega) (by have := hx.c; omega) (by have := hx.d; omega) H
  have hr := fun H => ref_Right vk vn (mkB vt) (by rw [mkB_size]; omega) H
  simp only [mkB_data] at hr
  have hn := leaves_none vk vn vt
  apply optW.eq
  rw [ecall_0 T_hedgerowref06_Change rfl (by simp [F_hedgerowref06_Change]), wp_fin1]
  unfold mayB
  cases hel : elemV x.k x.a x.b x.c x.d with
  | false =>
    rw [hel] at he
    simp [F_hedgerowref06_Change, b_hedgerowref06_Change, chC, elC, he]
  | true =>
    obtain ⟨k1, k2⟩ := kept_iff hel
    rw [hel] at he
    rw [← k2]
    cases hv : vnone vk vn vt
    all_goals rw [hv] at hn
    all_goals
      by_cases kp : 4 ≤ x.k
      all_goals
        by_cases o1 : op = 1
        · simp [F_hedgerowref06_Change, b_hedgerowref06_Change, chC, elC, he, hn, gFill, kp, o1]
        by_cases o2 : op = 2
        · simp [F_hedgerowref06_Change, b_hedgerowref06_Change, chC, elC, he, hn, gFill, kp, o2]
        by_cases o3 : op = 3
        · by_cases a1 : 1 ≤ vk
          · by_cases a2 : vk ≤ 3 <;> simp [F_hedgerowref06_Change, b_hedgerowref06_Change, chC, elC, he, hn, hr, gFill, kp, o3, a1, a2]
          · simp [F_hedgerowref06_Change, b_hedgerowref06_Change, chC, elC, he, hn, hr, gFill, kp, o3, a1]
        by_cases o4 : op = 4
        · simp [F_hedgerowref06_Change, b_hedgerowref06_Change, chC, elC, he, hn, gFill, kp, o4]
        simp [F_hedgerowref06_Change, b_hedgerowref06_Change, chC, elC, he, hn, gFill, kp, o1, o2, o3, o4]

/-! ## Events -/

structure Evt where
  r : Int
  c : Int
  past : List Int
  op : Int
  x : El
  vk : Int
  vn : Int
  vt : List UInt8

def evTl (e : Evt) : List GV := .int .i64 e.op :: (elC e.x ++ [.int .i64 e.vk, .int .i64 e.vn, .str (mkB e.vt)])
def evC (e : Evt) : List GV := .int .i64 e.r :: .int .i64 e.c :: ((e.past.map fun n => GV.int .i64 n) ++ evTl e)

structure EvFit (e : Evt) : Prop where
  past : e.past.length = 16
  x : ElFit e.x
  t : e.vt.length ≤ 1048576
  n1 : -9223372036854775808 ≤ e.vn
  n2 : e.vn ≤ 9223372036854775807

section
variable {e : Evt} (hp : e.past.length = 16)
include hp
theorem ev_len : (evC e).length = 27 := by simp [evC, evTl, elC, hp]
theorem ev_past : List.take 16 (List.drop 2 (evC e)) = e.past.map fun n => GV.int .i64 n := by
  have : List.drop 2 (evC e) = (e.past.map fun n => GV.int .i64 n) ++ evTl e := rfl
  rw [this, List.take_left' (by simp [hp])]
theorem ev_tl (k : Nat) : List.drop (18 + k) (evC e) = (evTl e).drop k := by
  have : List.drop (18 + k) (evC e) = List.drop (16 + k) ((e.past.map fun n => GV.int .i64 n) ++ evTl e) := by
    rw [show 18 + k = (16 + k) + 2 by omega]; rfl
  rw [this, ← List.drop_drop, List.drop_left' (by simp [hp])]
theorem ev_18 : (evC e)[18]? = some (.int .i64 e.op) := by
  have := congrArg (·[0]?) (ev_tl hp 0)
  simpa [evTl] using this
theorem ev_18' : ∀ h : 18 < (evC e).length, (evC e)[18]'h = .int .i64 e.op := fun h => by
  have := ev_18 hp
  rw [List.getElem?_eq_getElem h] at this
  exact Option.some.inj this
theorem ev_el : List.take 5 (List.drop 19 (evC e)) = elC e.x := by
  rw [show 19 = 18 + 1 from rfl, ev_tl hp 1]; rfl
theorem ev_val : List.take 3 (List.drop 24 (evC e)) = [.int .i64 e.vk, .int .i64 e.vn, .str (mkB e.vt)] := by
  rw [show 24 = 18 + 6 from rfl, ev_tl hp 6]; rfl
theorem ev_one : (evC e).all GV.one = true := by
  simp [evC, evTl, elC]
end
theorem ev_dot (e : Evt) : List.take 2 (evC e) = [.int .i64 e.r, .int .i64 e.c] := rfl
theorem ev_0 (e : Evt) : (evC e)[0]? = some (.int .i64 e.r) := rfl
theorem ev_1 (e : Evt) : (evC e)[1]? = some (.int .i64 e.c) := rfl

def evB (e : Evt) : Bool := (nextB e.past e.r e.c && vecB e.past) && mayB e.op e.x e.vk e.vn e.vt

theorem event_Of (e : Evt) (h : EvFit e) (H : GH) : ecall T f_event_Of [.agg (evC e)] H = some (.agg (chC e.op e.x e.vk e.vn e.vt), H) := by
  have l1 := ev_len h.past
  have l2 := ev_18 h.past
  have l2' := ev_18' h.past
  have l3 := ev_el h.past
  have l4 := ev_val h.past
  apply optW.eq
  rw [ecall_0 T_event_Of rfl (by simp [F_event_Of]), wp_fin1]
  simp only [elC] at l3
  simp [F_event_Of, b_event_Of, l1, l2, l2', l3, l4, gFill, setPart, chC, elC]

theorem event_Right (e : Evt) (h : EvFit e) (H : GH) : ecall T f_event_Right [.agg (evC e)] H = some (.int .i64 (if evB e then 0 else 1), H) := by
  have l1 := ev_len h.past
  have l2 := ev_past h.past
  have l3 := ev_dot e
  have l4 : List.take 27 (evC e) = evC e := List.take_of_length_le (by rw [l1]; exact Nat.le_refl _)
  have hn := fun H => vector_Next e.past h.past e.r e.c H
  have hv := fun H => vector_Right e.past h.past H
  have ho := fun H => event_Of e h H
  have hc := fun H => event_Change e.op e.x e.vk e.vn e.vt h.x h.n1 h.n2 H
  simp only [vecG] at hn hv
  apply optW.eq
  rw [ecall_0 T_event_Right rfl (by simp [F_event_Right]), wp_fin1]
  unfold evB
  cases h1 : nextB e.past e.r e.c with
  | false =>
    rw [h1] at hn
    simp [F_event_Right, b_event_Right, l1, l2, l3, hn]
  | true =>
    rw [h1] at hn
    cases h2 : vecB e.past with
    | false =>
      rw [h2] at hv
      simp [F_event_Right, b_event_Right, l1, l2, l3, hn, hv]
    | true =>
      rw [h2] at hv
      simp [F_event_Right, b_event_Right, l1, l2, l3, l4, hn, hv, ho, hc]

end Go.Proofs.YthbhfipgdinihaaDoor

namespace Go.Proofs.YthbhfipgdinihaaDoor
open Go.Sh
set_option maxRecDepth 100000

/-! ## A store's items -/

abbrev kLs : List Leaf := [.int .i64, .str, .str, .str, .str]
abbrev elG (x : El) : GV := .agg (elC x)
abbrev entG (x : Ent) : GV := .agg (entC x)

structure ElRange (x : El) : Prop where
  k1 : -9223372036854775808 ≤ x.k
  k2 : x.k ≤ 9223372036854775807

theorem el_key {x : El} (h : ElFit x) (hr : ElRange x) : keyOk true kLs (elG x) = true := by
  obtain ⟨h1, h2⟩ := hr
  have := h.a; have := h.b; have := h.c; have := h.d
  simp [keyOk, elC, keyFits, maxLen, IntKind.min, IntKind.max, IntKind.signed, IntKind.bits]
  omega

structure EntFit (x : Ent) : Prop where
  n1 : -9223372036854775808 ≤ x.n
  n2 : x.n ≤ 9223372036854775807

theorem store_New (H : GH) : ecall T f_store_New [] H = some (.ptr (H.objs.length + 1) 0, { H with objs := H.objs ++ [.map true kLs [], .cells 86 [.map H.objs.length]] }) := by
  apply optW.eq
  rw [ecall_0 T_store_New rfl (by simp [F_store_New]), wp_fin1]
  simp [F_store_New, b_store_New, gFill, setPart, GH.newObj]

def entryB (x : El) (e : Ent) : Bool := dotB e.r e.c && mayB (if x.k = 4 ∨ x.k = 5 then 3 else 1) x e.k e.n e.t

theorem store_entry (x : El) (e : Ent) (hx : ElFit x) (he : EntFit e) (H : GH) : ecall T f_store_entry [elG x, entG e] H = some (.bool (entryB x e), H) := by
  have hd := fun H => vector_Dot e.r e.c H
  have hc := fun op H => event_Change op x e.k e.n e.t hx he.n1 he.n2 H
  simp only [chC, elC, List.cons_append, List.nil_append] at hc
  apply optW.eq
  rw [ecall_0 T_store_entry rfl (by simp [F_store_entry]), wp_fin1]
  unfold entryB
  cases h1 : dotB e.r e.c with
  | false =>
    rw [h1] at hd
    by_cases k4 : x.k = 4
    · simp [F_store_entry, b_store_entry, elC, entC, hd, k4]
    · by_cases k5 : x.k = 5 <;> simp [F_store_entry, b_store_entry, elC, entC, hd, k4, k5]
  | true =>
    rw [h1] at hd
    by_cases k4 : x.k = 4
    · have hc' := hc 3
      simp only [k4] at hc'
      cases hm : mayB 3 x e.k e.n e.t <;> rw [hm] at hc' <;> simp [F_store_entry, b_store_entry, elC, entC, hd, k4, hc', gFill, setPart, hm]
    · by_cases k5 : x.k = 5
      · have hc' := hc 3
        simp only [k5] at hc'
        cases hm : mayB 3 x e.k e.n e.t <;> rw [hm] at hc' <;> simp [F_store_entry, b_store_entry, elC, entC, hd, k4, k5, hc', gFill, setPart, hm]
      · have hc' := hc 1
        cases hm : mayB 1 x e.k e.n e.t <;> rw [hm] at hc' <;> simp [F_store_entry, b_store_entry, elC, entC, hd, k4, k5, hc', gFill, setPart, hm]

/-- A row's cells. -/
def rowE (L : List Ent) : List GV := (L.map entG).flatMap GV.cells
/-- The heap behind a clone. -/
def cloneH (L : List Ent) (H : GH) : GH := if L = [] then H else { H with objs := H.objs ++ [.row 53 (rowE L)] }
def CloneV (L : List Ent) (H : GH) (v' : GV) : Prop := (L = [] ∧ Elems 5 v' []) ∨ (L ≠ [] ∧ v' = .hsl H.objs.length 0 L.length 5 false)
/-- The heap behind a clone that is frozen. -/
def killH (L : List Ent) (H : GH) : GH := if L = [] then H else { H with objs := H.objs ++ [.dead] }

theorem clone_ent (L : List Ent) (v : GV) (hv : Elems 5 v (L.map entG)) (hL : L.length ≤ 1000000) (H : GH) :
    ∃ v', ecall T f_slices_Clonestore_Entrystore_Entry [v] H = some (v', cloneH L H) ∧ CloneV L H v' := by
  have key : optW (ecall T f_slices_Clonestore_Entrystore_Entry [v] H) fun r => CloneV L H r.1 ∧ r.2 = cloneH L H := by
    rw [ecall_0 T_slices_Clonestore_Entrystore_Entry rfl (by simp [F_slices_Clonestore_Entrystore_Entry]), wp_fin1]
    cases L with
    | nil =>
      generalize hz : ([] : List Ent).map entG = z at hv
      cases hv with
      | nil => 
        simp [F_slices_Clonestore_Entrystore_Entry, b_slices_Clonestore_Entrystore_Entry]
        exact ⟨.inl ⟨rfl, .nil⟩, rfl⟩
      | sl xs t =>
        simp at hz; subst hz
        simp [F_slices_Clonestore_Entrystore_Entry, b_slices_Clonestore_Entrystore_Entry, gSetAll, gAppendN, gNews]
        exact ⟨.inl ⟨rfl, .sl _ _⟩, rfl⟩
    | cons y L =>
      generalize hz : (y :: L).map entG = z at hv
      cases hv with
      | nil => cases hz
      | sl xs t =>
        subst hz
        have h1 : (((y :: L).map entG).length * 48 ≤ room ∧ ((y :: L).map entG).length ≤ maxLen) := by
          simp only [List.length_map]
          simp only [List.length_cons] at hL
          simp [room, maxLen]; omega
        have ha : gAppendN H 53 5 48 (.sl 5 [] .exact) (.sl 5 ((y :: L).map entG) t) = some (.hsl H.objs.length 0 ((y :: L).map entG).length 5 false, H.newObj (.row 53 (((y :: L).map entG).flatMap GV.cells))) := by
          simp only [gAppendN, gNews, if_true, Option.bind_some]
          rw [if_neg (by simp), if_neg (by simp), if_pos (by simp), if_pos h1]
        simp only [List.map_cons] at ha
        simp [F_slices_Clonestore_Entrystore_Entry, b_slices_Clonestore_Entrystore_Entry, gSetAll, ha]
        exact ⟨.inr ⟨by simp, by simp⟩, by simp [cloneH, GH.newObj, rowE]⟩
  obtain ⟨⟨v', H'⟩, h1, h2, h3⟩ := key
  simp only at h3
  subst h3
  exact ⟨v', h1, h2⟩

theorem rowE_len (L : List Ent) : (rowE L).length = L.length * 5 := by
  induction L with
  | nil => rfl
  | cons e L ih => simp [rowE] at ih ⊢; simp [entC, ih]; omega
theorem rowE_one (L : List Ent) : (rowE L).all GV.one = true := by
  induction L with
  | nil => rfl
  | cons e L ih => simp [rowE] at ih ⊢; refine ⟨?_, ih⟩; simp [entC, GV.one]
theorem rowE_chunks (L : List Ent) : chunks 5 L.length (rowE L) = L.map entG := by
  induction L with
  | nil => rfl
  | cons e L ih =>
    have : rowE (e :: L) = entC e ++ rowE L := by simp [rowE]
    rw [this]
    simp only [List.length_cons, chunks, List.map_cons]
    have e1 : (entC e ++ rowE L).take 5 = entC e := by simp [entC]
    have e2 : (entC e ++ rowE L).drop 5 = rowE L := by simp [entC]
    rw [e1, e2, ih]
    rfl

theorem set_last {α : Type} (l : List α) (x y : α) : (l ++ [x]).set l.length y = l ++ [y] := by
  induction l with
  | nil => rfl
  | cons a l ih => simp

theorem freeze_ent {L : List Ent} {H : GH} {v' : GV} (h : CloneV L H v') (hbo : H.bo ≤ H.objs.length) : ∃ v'', gFreeze (cloneH L H) [v'] = some (v'', killH L H) ∧ Elems 5 v'' (L.map entG) := by
  rcases h with ⟨rfl, h⟩ | ⟨h, rfl⟩
  · generalize hz : ([] : List GV) = z at h
    cases h with
    | nil => exact ⟨_, rfl, .nil⟩
    | sl xs t => subst hz; exact ⟨_, rfl, .sl _ _⟩
  · refine ⟨.sl 5 (L.map entG) .imm, ?_, .sl _ _⟩
    have h1 : (cloneH L H).objs[H.objs.length]? = some (.row 53 (rowE L)) := by simp [cloneH, h]
    have h2 : (cloneH L H).bo = H.bo := by simp [cloneH, h]
    simp only [gFreeze, h1, h2]
    have hl := rowE_len L
    have ho : ((List.take (L.length * 5) (List.drop 0 (rowE L))).all GV.one) = true := by
      rw [List.drop_zero, ← hl, List.take_length]; exact rowE_one L
    rw [if_pos ⟨hbo, by decide, by omega, ho⟩, List.drop_zero, rowE_chunks]
    simp [cloneH, killH, h, set_last]

/-- A store: where it lies, and its map. -/
structure SAt (H : GH) (s m : Nat) (es : List (GV × GV)) : Prop where
  os : H.objs[s]? = some (.cells 86 [.map m])
  om : H.objs[m]? = some (.map true kLs es)
  bo : H.bo ≤ m

def layM (es : List (GV × GV)) (x : El) (L : List Ent) (v : GV) : List (GV × GV) := if L = [] then mapDel es (elG x) else mapPut es (elG x) v

theorem store_lay {H : GH} {s m : Nat} {es : List (GV × GV)} (hs : SAt H s m es) (hm : m < H.objs.length) (x : El) (hx : ElFit x) (hr : ElRange x) (L : List Ent) (v : GV) (hv : CloneV L H v) (hbo : H.bo ≤ H.objs.length) :
    ∃ v', ecall T f_store_Store_lay [.ptr s 0, elG x, v] (cloneH L H) = some (.tup [], { killH L H with objs := (killH L H).objs.set m (.map true kLs (layM es x L v')) }) ∧ Elems 5 v' (L.map entG) := by
  obtain ⟨h1, h2, h3⟩ := hs
  have hk0 := el_key hx hr
  have hk := el_key hx hr
  have hslt : s < H.objs.length := (List.getElem?_eq_some_iff.1 h1).1
  obtain ⟨v', hf, hE⟩ := freeze_ent hv hbo
  refine ⟨v', ?_, hE⟩
  simp only [elG, elC] at hk
  apply optW.eq
  rw [ecall_0 T_store_Store_lay rfl (by simp [F_store_Store_lay]), wp_fin1]
  unfold layM
  rcases hv with ⟨rfl, hv⟩ | ⟨hne, rfl⟩
  · have hl := hv.len
    have hu := elemsUnbox hv
    have hok := hv.ok
    simp at hl
    simp [F_store_Store_lay, b_store_Store_lay, elC, hl, hu, cloneH, killH, h1, h2, h3, hk]
    rfl
  · have hn : ¬ ((L.length : Int) = 0) := by have : L.length ≠ 0 := by simpa using hne
                                             omega
    have c1 : (cloneH L H).objs[s]? = some (.cells 86 [.map m]) := by simp [cloneH, hne, List.getElem?_append_left hslt, h1]
    have k1 : (killH L H).objs[m]? = some (.map true kLs es) := by simp [killH, hne, List.getElem?_append_left hm, h2]
    have k2 : (killH L H).bo = H.bo := by simp [killH, hne]
    have ok' := hE.ok
    simp [F_store_Store_lay, b_store_Store_lay, elC, c1, hn]
    simp [c1, hf, k1, k2, h3, ok', hk, hne]
    rfl

instance : Inhabited Ent := ⟨⟨0, 0, 0, 0, []⟩⟩

def okAt (x : El) (L : List Ent) (i : Nat) : Bool := entryB x (L.getD i default) && (decide (i = 0) || decide (ordD (L.getD (i - 1) default) (L.getD i default) < 0))
def okPutB (x : El) (L : List Ent) : Bool := elemV x.k x.a x.b x.c x.d && (List.range L.length).all (okAt x L)

theorem range_all_succ (p : Nat → Bool) (i : Nat) : (List.range (i + 1)).all p = ((List.range i).all p && p i) := by
  rw [List.range_succ, List.all_append]; simp

def itemC (x : El) (v : GV) : List GV := elC x ++ [v]

end Go.Proofs.YthbhfipgdinihaaDoor

namespace Go.Proofs.YthbhfipgdinihaaDoor
open Go.Sh
set_option maxRecDepth 100000

theorem store_Put {H : GH} {s m : Nat} {es : List (GV × GV)} (hs : SAt H s m es) (x : El) (hx : ElFit x) (hr : ElRange x) (L : List Ent) (hL : L.length ≤ 100000) (hfit : ∀ e ∈ L, EntFit e) (v : GV) (hv : Elems 5 v (L.map entG)) (hm : m < H.objs.length) (hbo : H.bo ≤ H.objs.length) :
    ∃ H', ecall T f_store_Store_Put [.ptr s 0, .agg (itemC x v)] H = some (.int .i64 (if okPutB x L then 0 else 1), H') ∧
      ((okPutB x L = false ∧ H' = H) ∨ (okPutB x L = true ∧ ∃ v', Elems 5 v' (L.map entG) ∧ H' = { killH L H with objs := (killH L H).objs.set m (.map true kLs (layM es x L v')) })) := by
  have he := fun H => value_Elem x.k x.a x.b x.c x.d (by have := hx.a; omega) (by have := hx.b; omega) (by have := hx.c; omega) (by have := hx.d; omega) H
  have hl := hv.len
  have hu := elemsUnbox hv
  have hok := hv.ok
  have hone := hv.one
  have hcel := hv.cells
  have key : optW (ecall T f_store_Store_Put [.ptr s 0, .agg (itemC x v)] H) fun r => r.1 = .int .i64 (if okPutB x L then 0 else 1) ∧
      ((okPutB x L = false ∧ r.2 = H) ∨ (okPutB x L = true ∧ ∃ v', Elems 5 v' (L.map entG) ∧ r.2 = { killH L H with objs := (killH L H).objs.set m (.map true kLs (layM es x L v')) })) := by
    rw [ecall_0 T_store_Store_Put rfl (by simp [F_store_Store_Put]), wp_fin1]
    simp only [F_store_Store_Put, b_store_Store_Put]
    cases hel : elemV x.k x.a x.b x.c x.d with
    | false =>
      rw [hel] at he
      simp [itemC, elC, he, okPutB, hel, hok]
    | true =>
      rw [hel] at he
      simp [itemC, elC, he, hok, hl, hu]
      rw [wp_seqK, wp_blockK]
      refine range_loop (T := T) (n := L.length) (A := Unit) (fun _ _ => [(0, .ptr s 0), (3, .lbox 0 (elC x ++ [v]))]) (fun i _ _ H' => H' = H ∧ (List.range i).all (okAt x L) = true) (c := 19) (b := 0) (I := 18) (N := 17) (d := 43) rfl (by omega) (by decide) ⟨rfl, rfl⟩ (by simp) ?_ ?_ 0 () _ _ H (by omega) ⟨rfl, rfl⟩ (by simp [elC]) (.refl _ _ _) (by simp) (by simp)
      · intro i a l g H' hi ⟨hH, hall⟩ hh hf hI
        subst hH
        have h16 := hf.get 16 rfl (v := v) (by simp [hu]) (by simp [hv.boxy])
        obtain ⟨lt, ix, opt, get, ⟨t, sl⟩, wr_, mem⟩ := at_ok (e := entG) hv hi (by omega)
        generalize L[i]'hi = e at opt get mem
        have hgd : L.getD i default = e := by simp [List.getD, opt]
        have hen := fun H => store_entry x e hx (hfit e mem) H
        simp only [elG, entG, elC, entC] at hen
        simp only [Holds_cons, Holds_nil, and_true, elC] at hh
        obtain ⟨hh0, hh3⟩ := hh
        have hbad : okAt x L i = false → okPutB x L = false := fun h => by
          have : (List.range L.length).all (okAt x L) = false := by
            rw [Bool.eq_false_iff]; intro h'
            rw [List.all_eq_true.1 h' i (List.mem_range.2 hi)] at h; cases h
          simp [okPutB, this]
        rw [sl] at h16
        cases hb : entryB x e with
        | false =>
          rw [hb] at hen
          have hp := hbad (by simp only [okAt, hgd, hb, Bool.false_and])
          simp [h16, hI, hh0, hh3, ix, opt, get, entC, setPart, hen, hp]
        | true =>
          rw [hb] at hen
          rcases Nat.eq_zero_or_pos i with rfl | hpos
          · have hk : okAt x L 0 = true := by simp only [okAt, hgd, hb]; rfl
            simp at hI ix
            simp [h16, hI, hh0, hh3, ix, opt, get, entC, setPart, hen]
            intro hf'
            exact ⟨by simpa using hk, by simp [elC]⟩
          · have hi1 : i - 1 < L.length := by omega
            obtain ⟨lt1, ix1, opt1, get1, _, _, _⟩ := at_ok (e := entG) hv hi1 (by omega)
            generalize L[i - 1]'hi1 = p at opt1 get1
            have hgd1 : L.getD (i - 1) default = p := by simp [List.getD, opt1]
            have hw : IntKind.i64.wrap ((i : Int) - 1) = ((i - 1 : Nat) : Int) := by rw [wrap_i64' (by omega) (by omega)]; omega
            have hbd := fun H => store_byDot p e H
            simp only [entC] at hbd
            have hpi : (0 : Int) < i := by omega
            have hko : okAt x L i = decide (ordD p e < 0) := by
              have : i ≠ 0 := by omega
              simp only [okAt, hgd, hgd1, hb, this, decide_false, Bool.false_or, Bool.true_and]
            by_cases hord : ordD p e < 0
            · have hge : ¬ (0 ≤ ordD p e) := by omega
              have hk : okAt x L i = true := by rw [hko]; simpa using hord
              have hall' : (List.range (i + 1)).all (okAt x L) = true := by rw [range_all_succ, hall, hk]; rfl
              subst sl
              simp [h16, hI, hh0, hh3, ix, opt, get, entC, setPart, hen, hpi, hpos, hw, ix1, opt1, get1, hbd, hge]
              intro hf'
              exact ⟨by simpa using hall', by simp [elC]⟩
            · have hge : 0 ≤ ordD p e := by omega
              have hp := hbad (by rw [hko]; simpa using hge)
              subst sl
              simp [h16, hI, hh0, hh3, ix, opt, get, entC, setPart, hen, hpi, hpos, hw, ix1, opt1, get1, hbd, hge, hp]
      · intro a l g H' ⟨hH, hall⟩ hh hf
        subst hH
        have hp : okPutB x L = true := by simp only [okPutB, hel, hall, Bool.and_self]
        simp only [Holds_cons, Holds_nil, and_true, elC] at hh
        obtain ⟨hh0, hh3⟩ := hh
        obtain ⟨v', c1, c2⟩ := clone_ent L v hv (by omega) H'
        obtain ⟨v2, hlay, c3⟩ := store_lay hs hm x hx hr L v' c2 hbo
        simp only [elG, elC] at hlay
        have hok' : v'.ok = true := by rcases c2 with ⟨_, h⟩ | ⟨_, h⟩; exact h.ok; subst h; rfl
        have hu' : ∀ t, unbox t v' = v' := by rcases c2 with ⟨_, h⟩ | ⟨_, h⟩; exact elemsUnbox h; subst h; exact fun _ => rfl
        simp [hh0, hh3, hu, hok, c1, hok', hu', hlay, hp]
        exact ⟨v2, c3, rfl⟩
  obtain ⟨⟨r, H'⟩, h1, h2, h3⟩ := key
  simp only at h2 h3
  exact ⟨H', by rw [h1, h2], h3⟩
end Go.Proofs.YthbhfipgdinihaaDoor

namespace Go.Proofs.YthbhfipgdinihaaDoor
open Go.Sh
set_option maxRecDepth 100000

/-- What a map has of an element. -/
def Has (es : List (GV × GV)) (x : El) (L : List Ent) : Prop := (mapGet es (elG x) = none ∧ L = []) ∨ ∃ v, mapGet es (elG x) = some v ∧ Elems 5 v (L.map entG)

theorem Has.get {es : List (GV × GV)} {x : El} {L : List Ent} (h : Has es x L) : Elems 5 ((mapGet es (elG x)).getD .nilsl) (L.map entG) := by
  rcases h with ⟨h, rfl⟩ | ⟨v, h, hv⟩
  · rw [h]; exact .nil
  · rw [h]; exact hv

theorem geff_freeze {call : Nat → List GV → GH → Option (GV × GH)} {l : List GV} {g : Nat} {H : GH} (args : List GV) : geff call .freeze args ⟨l, g⟩ H = callK (gFreeze H args) g := rfl
theorem freeze_nil (H : GH) : gFreeze H [.nilsl] = some (.nilsl, H) := rfl

theorem store_Entries {H : GH} {s m : Nat} {es : List (GV × GV)} (hs : SAt H s m es) (x : El) (hx : ElFit x) (hr : ElRange x) (L : List Ent) (hL : L.length ≤ 1000000) (hv : Has es x L) (hbo : H.bo ≤ H.objs.length) :
    ∃ v', ecall T f_store_Store_Entries [.ptr s 0, elG x] H = some (v', killH L H) ∧ Elems 5 v' (L.map entG) := by
  obtain ⟨h1, h2, h3⟩ := hs
  have hk := el_key hx hr
  obtain ⟨w, c1, c2⟩ := clone_ent L _ hv.get hL H
  obtain ⟨v', hf, hE⟩ := freeze_ent c2 hbo
  refine ⟨v', ?_, hE⟩
  have hok' : w.ok = true := by rcases c2 with ⟨_, h⟩ | ⟨_, h⟩; exact h.ok; subst h; rfl
  have hu' : ∀ t, unbox t w = w := by rcases c2 with ⟨_, h⟩ | ⟨_, h⟩; exact elemsUnbox h; subst h; exact fun _ => rfl
  have gok := hv.get.ok
  have gu := elemsUnbox hv.get
  have vok := hE.ok
  have vu := elemsUnbox hE
  apply optW.eq
  rw [ecall_0 T_store_Store_Entries rfl (by simp [F_store_Store_Entries]), wp_fin1]
  simp only [elG, elC] at hk c1 gok gu
  simp [F_store_Store_Entries, b_store_Store_Entries, elC, h1, h2, hk, c1, hok', hu', hf, gok, gu, vok, vu, geff_freeze, freeze_nil]
end Go.Proofs.YthbhfipgdinihaaDoor

namespace Go.Proofs.YthbhfipgdinihaaDoor
open Go.Sh
set_option maxRecDepth 100000

/-! ## Maps of elements -/

theorem elG_inj {x y : El} (h : elG x = elG y) : x = y := by
  obtain ⟨k, a, b, c, d⟩ := x
  obtain ⟨k', a', b', c', d'⟩ := y
  simp only [elC, GV.agg.injEq, List.cons.injEq, GV.int.injEq, GV.str.injEq, and_true, true_and] at h
  obtain ⟨h1, h2, h3, h4, h5⟩ := h
  have q : ∀ u v : List UInt8, mkB u = mkB v → u = v := fun u v h => by
    have := congrArg (fun b : ByteArray => b.data.toList) h
    simpa [mkB_data] using this
  rw [h1, q _ _ h2, q _ _ h3, q _ _ h4, q _ _ h5]

def Keys (es : List (GV × GV)) : Prop := ∀ p ∈ es, keyOk true kLs p.1 = true

theorem put_keys {es : List (GV × GV)} (h : Keys es) {k : GV} (hk : keyOk true kLs k = true) (v : GV) : Keys (mapPut es k v) := by
  intro p hp
  unfold mapPut at hp
  split at hp
  · obtain ⟨q, hq, rfl⟩ := List.mem_map.1 hp
    split
    · exact hk
    · exact h q hq
  · rcases List.mem_append.1 hp with hp | hp
    · exact h p hp
    · rw [List.mem_singleton] at hp; subst hp; exact hk
theorem del_keys {es : List (GV × GV)} (h : Keys es) (k : GV) : Keys (mapDel es k) := fun p hp => h p (List.mem_filter.1 hp).1

theorem key_self {k : GV} (hk : keyOk true kLs k = true) : keyEq k k = true := (keyEq_iff hk hk).2 rfl

theorem get_put {es : List (GV × GV)} {k : GV} (hk : keyOk true kLs k = true) (v : GV) : mapGet (mapPut es k v) k = some v := by
  unfold mapGet mapPut
  split
  · rename_i h
    induction es with
    | nil => simp at h
    | cons p es ih =>
      rw [List.map_cons, List.find?_cons]
      cases hp : keyEq p.1 k with
      | true => simp [key_self hk]
      | false =>
        simp only [hp, Bool.false_eq_true, if_false]
        simp only [List.any_cons, hp, Bool.false_or] at h
        exact ih h
  · rename_i h
    rw [List.find?_append]
    have : es.find? (fun p => keyEq p.1 k) = none := by
      rw [List.find?_eq_none]
      intro q hq hqk
      exact h (List.any_eq_true.2 ⟨q, hq, hqk⟩)
    rw [this]
    simp [key_self hk]

theorem get_put_ne {es : List (GV × GV)} (h : Keys es) {k k' : GV} (hk : keyOk true kLs k = true) (hk' : keyOk true kLs k' = true) (hne : k ≠ k') (v : GV) : mapGet (mapPut es k v) k' = mapGet es k' := by
  have hkk : keyEq k k' = false := by
    rw [Bool.eq_false_iff]; exact fun e => hne ((keyEq_iff hk hk').1 e)
  unfold mapGet mapPut
  congr 1
  split
  · rename_i hany
    clear hany
    induction es with
    | nil => rfl
    | cons p es ih =>
      rw [List.map_cons, List.find?_cons, List.find?_cons, ih fun q hq => h q (by simp [hq])]
      cases hp : keyEq p.1 k with
      | false => simp
      | true =>
        have e := (keyEq_iff (h p (by simp)) hk).1 hp
        have : keyEq p.1 k' = false := by rw [e]; exact hkk
        simp [hkk, this]
  · rw [List.find?_append]
    simp [hkk]

theorem get_del {es : List (GV × GV)} (k : GV) : mapGet (mapDel es k) k = none := by
  unfold mapGet mapDel
  rw [Option.map_eq_none_iff, List.find?_eq_none]
  intro p hp
  have := (List.mem_filter.1 hp).2
  simpa using this

theorem get_del_ne {es : List (GV × GV)} (h : Keys es) {k k' : GV} (hk : keyOk true kLs k = true) (hk' : keyOk true kLs k' = true) (hne : k ≠ k') : mapGet (mapDel es k) k' = mapGet es k' := by
  unfold mapGet mapDel
  congr 1
  induction es with
  | nil => rfl
  | cons p es ih =>
    have ih' := ih fun q hq => h q (by simp [hq])
    rw [List.filter_cons, List.find?_cons]
    cases hp : keyEq p.1 k with
    | false => simp only [Bool.not_false, if_true]; rw [List.find?_cons, ih']
    | true =>
      have e := (keyEq_iff (h p (by simp)) hk).1 hp
      have : keyEq p.1 k' = false := by
        rw [Bool.eq_false_iff, e]; exact fun e => hne ((keyEq_iff hk hk').1 e)
      simp only [Bool.not_true, Bool.false_eq_true, if_false, this]
      exact ih'

/-- Both maps have the same, element by element. -/
def Both (es es2 : List (GV × GV)) : Prop := ∀ x : El, ElFit x → ElRange x → ∃ L : List Ent, L.length ≤ 20 ∧ Has es x L ∧ Has es2 x L

theorem both_nil : Both [] [] := fun _ _ _ => ⟨[], by simp, .inl ⟨rfl, rfl⟩, .inl ⟨rfl, rfl⟩⟩

theorem lay_keys {es : List (GV × GV)} (h : Keys es) {x : El} (hx : ElFit x) (hr : ElRange x) (L : List Ent) (v : GV) : Keys (layM es x L v) := by
  unfold layM
  split
  · exact del_keys h _
  · exact put_keys h (el_key hx hr) v

theorem both_lay {es es2 : List (GV × GV)} (h : Both es es2) (k1 : Keys es) (k2 : Keys es2) {x : El} (hx : ElFit x) (hr : ElRange x) (L : List Ent) (hL : L.length ≤ 20) {v w : GV} (hv : Elems 5 v (L.map entG)) (hw : Elems 5 w (L.map entG)) :
    Both (layM es x L v) (mapPut es2 (elG x) w) := by
  intro y hy hyr
  have hkx := el_key hx hr
  have hky := el_key hy hyr
  by_cases hxy : x = y
  · subst hxy
    refine ⟨L, hL, ?_, .inr ⟨w, get_put hkx w, hw⟩⟩
    unfold layM
    split
    · rename_i h0; exact .inl ⟨get_del _, h0⟩
    · exact .inr ⟨v, get_put hkx v, hv⟩
  · obtain ⟨M, hM, m1, m2⟩ := h y hy hyr
    have hne : elG x ≠ elG y := fun e => hxy (elG_inj e)
    refine ⟨M, hM, ?_, ?_⟩
    · unfold Has
      have : mapGet (layM es x L v) (elG y) = mapGet es (elG y) := by
        unfold layM
        split
        · exact get_del_ne k1 hkx hky hne
        · exact get_put_ne k1 hkx hky hne v
      rw [this]; exact m1
    · unfold Has
      rw [get_put_ne k2 hkx hky hne w]; exact m2
end Go.Proofs.YthbhfipgdinihaaDoor
