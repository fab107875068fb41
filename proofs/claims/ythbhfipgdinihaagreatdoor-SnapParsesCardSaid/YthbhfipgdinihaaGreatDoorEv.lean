/- Own work: the shadow machine and what it shows, part Ev. -/
import Derived.Test.YthbhfipgdinihaaGreatDoorEl
set_option linter.all false

namespace Go.Proofs.YthbhfipgdinihaaGreatDoor
open Go.Sh
set_option maxRecDepth 100000

/-! ## Changes -/

def vnone (k n : Int) (t : List UInt8) : Bool := decide (k = 0 ∧ n = 0 ∧ t = [])

def mayB (op : Int) (x : El) (vk vn : Int) (vt : List UInt8) : Bool :=
  elemV x.k x.a x.b x.c x.d && (if op = 1 ∨ op = 2 then vnone vk vn vt && decide (x.k < 4) else if op = 3 then decide (4 ≤ x.k) && (decide (1 ≤ vk ∧ vk ≤ 3) && rightV vk vn vt) else if op = 4 then vnone vk vn vt && decide (4 ≤ x.k) else false)

structure ElFit (x : El) : Prop where
  a : x.a.length ≤ 1048576
  b : x.b.length ≤ 1048576
  c : x.c.length ≤ 1048576
  d : x.d.length ≤ 1048576

def chC (op : Int) (x : El) (vk vn : Int) (vt : List UInt8) : List GV := .int .i64 op :: (elC x ++ [.int .i64 vk, .int .i64 vn, .str (mkB vt)])

theorem leaves_none (k n : Int) (t : List UInt8) : leavesEq [.int .i64, .int .i64, .str] [.int .i64 k, .int .i64 n, .str (mkB t)] [.int .i64 0, .int .i64 0, .str ⟨#[]⟩] = some (vnone k n t) := by
  have : vnone k n t = (decide (k = 0) && (decide (n = 0) && (decide (t = []) && true))) := by
    rw [Bool.eq_iff_iff]; simp [vnone]
  rw [this]
  by_cases h1 : k = 0 <;> by_cases h2 : n = 0 <;> by_cases h3 : t = [] <;> simp [leavesEq, h1, h2, h3]

theorem event_kept (x : El) (H : GH) : ecall T f_event_kept [.agg (elC x)] H = some (.bool (decide (x.k = 4 ∨ x.k = 5)), H) := by
  apply optW.eq
  rw [ecall_0 T_event_kept rfl (by simp [F_event_kept]), wp_fin1]
  by_cases h : x.k = 4
  · simp [F_event_kept, b_event_kept, elC, h]
  · simp [F_event_kept, b_event_kept, elC, h]

theorem event_scalar (k n : Int) (t : List UInt8) (ht : t.length ≤ 1048576) (h1 : -9223372036854775808 ≤ n) (h2 : n ≤ 9223372036854775807) (H : GH) :
    ecall T f_event_scalar [.agg [.int .i64 k, .int .i64 n, .str (mkB t)]] H = some (.bool (decide (1 ≤ k ∧ k ≤ 3) && rightV k n t), H) := by
  have hr := fun H => value_Right k n (mkB t) (by rw [mkB_size]; exact ht) h1 h2 H
  simp only [mkB_data] at hr
  apply optW.eq
  rw [ecall_0 T_event_scalar rfl (by simp [F_event_scalar]), wp_fin1]
  by_cases a1 : 1 ≤ k
  · by_cases a2 : k ≤ 3 <;> simp [F_event_scalar, b_event_scalar, a1, a2, hr]
  · simp [F_event_scalar, b_event_scalar, a1]

theorem kept_iff {x : El} (h : elemV x.k x.a x.b x.c x.d = true) : decide (x.k = 4 ∨ x.k = 5) = decide (4 ≤ x.k) ∧ (!decide (4 ≤ x.k)) = decide (x.k < 4) := by
  rcases elem_kind h with h | h | h | h | h <;> rw [h] <;> decide

theorem event_may (op : Int) (x : El) (vk vn : Int) (vt : List UInt8) (hx : ElFit x) (ht : vt.length ≤ 1048576) (h1 : -9223372036854775808 ≤ vn) (h2 : vn ≤ 9223372036854775807) (H : GH) :
    ecall T f_event_may [.agg (chC op x vk vn vt)] H = some (.bool (mayB op x vk vn vt), H) := by
  have he := fun H => value_Elem x.k x.a x.b x.c x.d (by have := hx.a; omega) (by have := hx.b; omega) (by have := hx.c; omega) (by have := hx.d; omega) H
  have hk := fun H => event_kept x H
  have hs := fun H => event_scalar vk vn vt ht h1 h2 H
  have hn := leaves_none vk vn vt
  simp only [elC] at hk
  apply optW.eq
  rw [ecall_0 T_event_may rfl (by simp [F_event_may]), wp_fin1]
  unfold mayB
  cases hel : elemV x.k x.a x.b x.c x.d with
  | false =>
    rw [hel] at he
    simp [F_event_may, b_event_may, chC, elC, he]
  | true =>
    obtain ⟨k1, k2⟩ := kept_iff hel
    rw [hel] at he
    rw [k1] at hk
    rw [← k2]
    generalize decide (4 ≤ x.k) = kp at hk ⊢
    cases hv : vnone vk vn vt
    all_goals rw [hv] at hn
    all_goals
      by_cases o1 : op = 1
      · cases kp <;> simp [F_event_may, b_event_may, chC, elC, he, hk, hn, gFill, o1]
      by_cases o2 : op = 2
      · cases kp <;> simp [F_event_may, b_event_may, chC, elC, he, hk, hn, gFill, o2]
      by_cases o3 : op = 3
      · cases kp <;> simp [F_event_may, b_event_may, chC, elC, he, hk, hn, hs, gFill, o3]
      by_cases o4 : op = 4
      · cases kp <;> simp [F_event_may, b_event_may, chC, elC, he, hk, hn, gFill, o4]
      simp [F_event_may, b_event_may, chC, elC, he, hk, hn, gFill, o1, o2, o3, o4]

theorem event_Change (op : Int) (x : El) (vk vn : Int) (vt : List UInt8) (hx : ElFit x) (ht : vt.length ≤ 1048576) (h1 : -9223372036854775808 ≤ vn) (h2 : vn ≤ 9223372036854775807) (H : GH) :
    ecall T f_event_Change [.agg (chC op x vk vn vt)] H = some (.int .i64 (if mayB op x vk vn vt then 0 else 1), H) := by
  have hm := fun H => event_may op x vk vn vt hx ht h1 h2 H
  simp only [chC, elC, List.cons_append, List.nil_append] at hm
  apply optW.eq
  rw [ecall_0 T_event_Change rfl (by simp [F_event_Change]), wp_fin1]
  cases hb : mayB op x vk vn vt <;> rw [hb] at hm <;> simp [F_event_Change, b_event_Change, chC, elC, hm]

theorem ref_Change (op : Int) (x : El) (vk vn : Int) (vt : List UInt8) (hx : ElFit x) (ht : vt.length ≤ 1048576) (H : GH) :
    ecall T f_hedgerowref06_Change [.agg (chC op x vk vn vt)] H = some (.bool (mayB op x vk vn vt), H) := by
  have he := fun H => ref_Elem x.k x.a x.b x.c x.d (by have := hx.a; omega) (by have := hx.b; omega) (by have := hx.c; omega) (by have := hx.d; omega) H
  have hr := fun H => ref_Right vk vn (mkB vt) (by rw [mkB_size]; omega) H
  simp only [mkB_data] at hr
  have hn := leaves_none vk vn vt
  apply optW.eq
  rw [ecall_0 T_hedgerowref06_Change rfl (by simp [F_hedgerowref06_Change]), wp_fin1]
  unfold mayB
  cases hel : elemV x.k x.a x.b x.c x.d with
  | false =>
    rw [hel] at he
    simp [F_hedgerowref06_Change, b_hedgerowref06_Change, chC, elC, he]
  | true =>
    obtain ⟨k1, k2⟩ := kept_iff hel
    rw [hel] at he
    rw [← k2]
    cases hv : vnone vk vn vt
    all_goals rw [hv] at hn
    all_goals
      by_cases kp : 4 ≤ x.k
      all_goals
        by_cases o1 : op = 1
        · simp [F_hedgerowref06_Change, b_hedgerowref06_Change, chC, elC, he, hn, gFill, kp, o1]
        by_cases o2 : op = 2
        · simp [F_hedgerowref06_Change, b_hedgerowref06_Change, chC, elC, he, hn, gFill, kp, o2]
        by_cases o3 : op = 3
        · by_cases a1 : 1 ≤ vk
          · by_cases a2 : vk ≤ 3 <;> simp [F_hedgerowref06_Change, b_hedgerowref06_Change, chC, elC, he, hn, hr, gFill, kp, o3, a1, a2]
          · simp [F_hedgerowref06_Change, b_hedgerowref06_Change, chC, elC, he, hn, hr, gFill, kp, o3, a1]
        by_cases o4 : op = 4
        · simp [F_hedgerowref06_Change, b_hedgerowref06_Change, chC, elC, he, hn, gFill, kp, o4]
        simp [F_hedgerowref06_Change, b_hedgerowref06_Change, chC, elC, he, hn, gFill, kp, o1, o2, o3, o4]

/-! ## Events -/

structure Evt where
  r : Int
  c : Int
  past : List Int
  op : Int
  x : El
  vk : Int
  vn : Int
  vt : List UInt8

def evTl (e : Evt) : List GV := .int .i64 e.op :: (elC e.x ++ [.int .i64 e.vk, .int .i64 e.vn, .str (mkB e.vt)])
def evC (e : Evt) : List GV := .int .i64 e.r :: .int .i64 e.c :: ((e.past.map fun n => GV.int .i64 n) ++ evTl e)

structure EvFit (e : Evt) : Prop where
  past : e.past.length = 16
  x : ElFit e.x
  t : e.vt.length ≤ 1048576
  n1 : -9223372036854775808 ≤ e.vn
  n2 : e.vn ≤ 9223372036854775807

section
variable {e : Evt} (hp : e.past.length = 16)
include hp
theorem ev_len : (evC e).length = 27 := by simp [evC, evTl, elC, hp]
theorem ev_past : List.take 16 (List.drop 2 (evC e)) = e.past.map fun n => GV.int .i64 n := by
  have : List.drop 2 (evC e) = (e.past.map fun n => GV.int .i64 n) ++ evTl e := rfl
  rw [this, List.take_left' (by simp [hp])]
theorem ev_tl (k : Nat) : List.drop (18 + k) (evC e) = (evTl e).drop k := by
  have : List.drop (18 + k) (evC e) = List.drop (16 + k) ((e.past.map fun n => GV.int .i64 n) ++ evTl e) := by
    rw [show 18 + k = (16 + k) + 2 by omega]; rfl
  rw [this, ← List.drop_drop, List.drop_left' (by simp [hp])]
theorem ev_18 : (evC e)[18]? = some (.int .i64 e.op) := by
  have := congrArg (·[0]?) (ev_tl hp 0)
  simpa [evTl] using this
theorem ev_18' : ∀ h : 18 < (evC e).length, (evC e)[18]'h = .int .i64 e.op := fun h => by
  have := ev_18 hp
  rw [List.getElem?_eq_getElem h] at this
  exact Option.some.inj this
theorem ev_el : List.take 5 (List.drop 19 (evC e)) = elC e.x := by
  rw [show 19 = 18 + 1 from rfl, ev_tl hp 1]; rfl
theorem ev_val : List.take 3 (List.drop 24 (evC e)) = [.int .i64 e.vk, .int .i64 e.vn, .str (mkB e.vt)] := by
  rw [show 24 = 18 + 6 from rfl, ev_tl hp 6]; rfl
theorem ev_one : (evC e).all GV.one = true := by
  simp [evC, evTl, elC]
end
theorem ev_dot (e : Evt) : List.take 2 (evC e) = [.int .i64 e.r, .int .i64 e.c] := rfl
theorem ev_0 (e : Evt) : (evC e)[0]? = some (.int .i64 e.r) := rfl
theorem ev_1 (e : Evt) : (evC e)[1]? = some (.int .i64 e.c) := rfl

def evB (e : Evt) : Bool := (nextB e.past e.r e.c && vecB e.past) && mayB e.op e.x e.vk e.vn e.vt

theorem event_Of (e : Evt) (h : EvFit e) (H : GH) : ecall T f_event_Of [.agg (evC e)] H = some (.agg (chC e.op e.x e.vk e.vn e.vt), H) := by
  have l1 := ev_len h.past
  have l2 := ev_18 h.past
  have l2' := ev_18' h.past
  have l3 := ev_el h.past
  have l4 := ev_val h.past
  apply optW.eq
  rw [ecall_0 T_event_Of rfl (by simp [F_event_Of]), wp_fin1]
  simp only [elC] at l3
  simp [F_event_Of, b_event_Of, l1, l2, l2', l3, l4, gFill, setPart, chC, elC]

theorem event_Right (e : Evt) (h : EvFit e) (H : GH) : ecall T f_event_Right [.agg (evC e)] H = some (.int .i64 (if evB e then 0 else 1), H) := by
  have l1 := ev_len h.past
  have l2 := ev_past h.past
  have l3 := ev_dot e
  have l4 : List.take 27 (evC e) = evC e := List.take_of_length_le (by rw [l1]; exact Nat.le_refl _)
  have hn := fun H => vector_Next e.past h.past e.r e.c H
  have hv := fun H => vector_Right e.past h.past H
  have ho := fun H => event_Of e h H
  have hc := fun H => event_Change e.op e.x e.vk e.vn e.vt h.x h.t h.n1 h.n2 H
  simp only [vecG] at hn hv
  apply optW.eq
  rw [ecall_0 T_event_Right rfl (by simp [F_event_Right]), wp_fin1]
  unfold evB
  cases h1 : nextB e.past e.r e.c with
  | false =>
    rw [h1] at hn
    simp [F_event_Right, b_event_Right, l1, l2, l3, hn]
  | true =>
    rw [h1] at hn
    cases h2 : vecB e.past with
    | false =>
      rw [h2] at hv
      simp [F_event_Right, b_event_Right, l1, l2, l3, hn, hv]
    | true =>
      rw [h2] at hv
      simp [F_event_Right, b_event_Right, l1, l2, l3, l4, hn, hv, ho, hc]

theorem ref_EvRight (e : Evt) (h : EvFit e) (H : GH) : ecall T f_hedgerowref06_Right [.agg (evC e)] H = some (.bool (evB e), H) := by
  have l1 := ev_len h.past
  have l2 := ev_past h.past
  have l3 := ev_dot e
  have l5 := ev_18 h.past
  have l5' := ev_18' h.past
  have l6 := ev_el h.past
  have l7 := ev_val h.past
  have hc := fun H => ref_Change e.op e.x e.vk e.vn e.vt h.x (by have := h.t; omega) H
  simp only [chC, elC, List.cons_append, List.nil_append] at hc
  simp only [elC] at l6
  apply optW.eq
  rw [ecall_0 T_hedgerowref06_Right rfl (by simp [F_hedgerowref06_Right]), wp_fin1]
  have hdot : dotB e.r e.c = false → evB e = false := fun h => by simp [evB, nextB, h]
  by_cases a1 : e.r < 0
  · have : evB e = false := hdot (by simp [dotB]; omega)
    simp [F_hedgerowref06_Right, b_hedgerowref06_Right, l1, l3, setPart, a1, this]
  by_cases a2 : 15 < e.r
  · have : evB e = false := hdot (by simp [dotB]; omega)
    simp [F_hedgerowref06_Right, b_hedgerowref06_Right, l1, l3, setPart, a1, a2, this]
  by_cases a3 : e.c < 1
  · have : evB e = false := hdot (by simp [dotB]; omega)
    simp [F_hedgerowref06_Right, b_hedgerowref06_Right, l1, l3, setPart, a1, a2, a3, this]
  by_cases a4 : 1048576 < e.c
  · have : evB e = false := hdot (by simp [dotB]; omega)
    simp [F_hedgerowref06_Right, b_hedgerowref06_Right, l1, l3, setPart, a1, a2, a3, a4, this]
  simp only [F_hedgerowref06_Right, b_hedgerowref06_Right]
  simp [l1, l2, l3, setPart, a1, a2, a3, a4]
  rw [wp_seqK, wp_blockK]
  refine range_loop_c (T := T) (n := 16) (A := Unit) (fun _ _ => [(1, .lbox 0 (evC e)), (3, .lbox 1 [.int .i64 e.r, .int .i64 e.c])]) (fun i _ _ H' => H' = H ∧ (e.past.take i).all (fun n => decide (0 ≤ n ∧ n ≤ 1048576)) = true) (c := 29) (b := 0) (I := 28) (d := 37) rfl (by omega) (by decide) rfl (by simp) ?_ ?_ 0 () _ _ H (by omega) ⟨rfl, by simp⟩ (by simp) (.refl _ _ _) (by simp)
  · intro i a l g H' hi ⟨hH, hall⟩ hh hf hI
    subst hH
    have h27 := hf.get 27 rfl (v := .agg (e.past.map fun n => GV.int .i64 n)) (by simp) rfl
    simp only [Holds_cons, Holds_nil, and_true] at hh
    have hlt : i < e.past.length := by rw [h.past]; exact hi
    have hix : gIx 16 (.int .i64 (i : Int)) = some i := by simp only [gIx]; rw [if_pos (by omega)]; simp
    have hg : e.past[i]? = some e.past[i] := List.getElem?_eq_getElem hlt
    have htake : e.past.take (i + 1) = e.past.take i ++ [e.past[i]] := by rw [List.take_add_one, hg]; rfl
    generalize e.past[i] = n at hg htake
    have hbad : ¬ (0 ≤ n ∧ n ≤ 1048576) → evB e = false := fun hn => by
      have hb : vecB e.past = false := by
        rw [Bool.eq_false_iff]; intro h
        have := List.all_eq_true.1 h n (List.mem_of_getElem? hg)
        simp at this; omega
      simp [evB, hb]
    by_cases h0 : n < 0
    · simp [h27, hI, hix, hg, h0, hbad (by omega)]
    · by_cases h1 : 1048576 < n
      · simp [h27, hI, hix, hg, h0, h1, hbad (by omega)]
      · have hall' : (e.past.take (i + 1)).all (fun n => decide (0 ≤ n ∧ n ≤ 1048576)) = true := by
          rw [htake, List.all_append, hall]; simp; omega
        simp [h27, hI, hix, hg, h0, h1]
        exact fun _ => ⟨by simpa using hall', hh.1, hh.2⟩
  · intro a l g H' ⟨hH, hall⟩ hh hf
    subst hH
    simp only [Holds_cons, Holds_nil, and_true] at hh
    have hb : vecB e.past = true := by rw [← h.past, List.take_length] at hall; exact hall
    have hdd : dotB e.r e.c = true := by simp [dotB]; omega
    have hi := gIx16 (r := e.r) (by omega) (by omega)
    have hat : (evC e)[2 + e.r.toNat]? = some (.int .i64 (at16 e.past e.r)) := by
      have h2 := vec_at h.past (r := e.r) (by omega) (by omega)
      have hl : e.r.toNat < (e.past.map fun n => GV.int .i64 n).length := by simp [h.past]; omega
      show (GV.int .i64 e.r :: GV.int .i64 e.c :: ((e.past.map fun n => GV.int .i64 n) ++ evTl e))[2 + e.r.toNat]? = _
      rw [show 2 + e.r.toNat = e.r.toNat + 1 + 1 by omega, List.getElem?_cons_succ, List.getElem?_cons_succ, List.getElem?_append_left hl]
      exact h2
    have hw : IntKind.i64.wrap (e.c - 1) = e.c - 1 := wrap_i64' (by omega) (by omega)
    have hev : evB e = (decide (at16 e.past e.r = e.c - 1) && mayB e.op e.x e.vk e.vn e.vt) := by simp [evB, nextB, hdd, hb]
    rw [hev]
    by_cases hat2 : at16 e.past e.r = e.c - 1
    · simp [hh.1, hh.2, l1, l5, l5', l6, l7, hi, hat, hw, hat2, gFill, setPart, elC, hc]
    · simp [hh.1, hh.2, l1, l5, l6, l7, hi, hat, hw, hat2]
end Go.Proofs.YthbhfipgdinihaaGreatDoor

namespace Go.Proofs.YthbhfipgdinihaaGreatDoor
open Go.Sh
set_option maxRecDepth 100000

/-! ## A store's items -/

abbrev kLs : List Leaf := [.int .i64, .str, .str, .str, .str]
abbrev elG (x : El) : GV := .agg (elC x)
abbrev entG (x : Ent) : GV := .agg (entC x)

structure ElRange (x : El) : Prop where
  k1 : -9223372036854775808 ≤ x.k
  k2 : x.k ≤ 9223372036854775807

theorem el_key {x : El} (h : ElFit x) (hr : ElRange x) : keyOk true kLs (elG x) = true := by
  obtain ⟨h1, h2⟩ := hr
  have := h.a; have := h.b; have := h.c; have := h.d
  simp [keyOk, elC, keyFits, maxLen, IntKind.min, IntKind.max, IntKind.signed, IntKind.bits]
  omega

structure EntFit (x : Ent) : Prop where
  t : x.t.length ≤ 1048576
  n1 : -9223372036854775808 ≤ x.n
  n2 : x.n ≤ 9223372036854775807

theorem store_New (H : GH) : ecall T f_store_New [] H = some (.ptr (H.objs.length + 1) 0, { H with objs := H.objs ++ [.map true kLs [], .cells 145 [.map H.objs.length]] }) := by
  apply optW.eq
  rw [ecall_0 T_store_New rfl (by simp [F_store_New]), wp_fin1]
  simp [F_store_New, b_store_New, gFill, setPart, GH.newObj]

def entryB (x : El) (e : Ent) : Bool := dotB e.r e.c && mayB (if x.k = 4 ∨ x.k = 5 then 3 else 1) x e.k e.n e.t

theorem store_entry (x : El) (e : Ent) (hx : ElFit x) (he : EntFit e) (H : GH) : ecall T f_store_entry [elG x, entG e] H = some (.bool (entryB x e), H) := by
  have hd := fun H => vector_Dot e.r e.c H
  have hc := fun op H => event_Change op x e.k e.n e.t hx he.t he.n1 he.n2 H
  simp only [chC, elC, List.cons_append, List.nil_append] at hc
  apply optW.eq
  rw [ecall_0 T_store_entry rfl (by simp [F_store_entry]), wp_fin1]
  unfold entryB
  cases h1 : dotB e.r e.c with
  | false =>
    rw [h1] at hd
    by_cases k4 : x.k = 4
    · simp [F_store_entry, b_store_entry, elC, entC, hd, k4]
    · by_cases k5 : x.k = 5 <;> simp [F_store_entry, b_store_entry, elC, entC, hd, k4, k5]
  | true =>
    rw [h1] at hd
    by_cases k4 : x.k = 4
    · have hc' := hc 3
      simp only [k4] at hc'
      cases hm : mayB 3 x e.k e.n e.t <;> rw [hm] at hc' <;> simp [F_store_entry, b_store_entry, elC, entC, hd, k4, hc', gFill, setPart, hm]
    · by_cases k5 : x.k = 5
      · have hc' := hc 3
        simp only [k5] at hc'
        cases hm : mayB 3 x e.k e.n e.t <;> rw [hm] at hc' <;> simp [F_store_entry, b_store_entry, elC, entC, hd, k4, k5, hc', gFill, setPart, hm]
      · have hc' := hc 1
        cases hm : mayB 1 x e.k e.n e.t <;> rw [hm] at hc' <;> simp [F_store_entry, b_store_entry, elC, entC, hd, k4, k5, hc', gFill, setPart, hm]

theorem clone_ent (L : List Ent) (v : GV) (hv : Elems 5 v (L.map entG)) (hL : L.length ≤ 1000000) (H : GH) (hbt : H.bt ≤ H.toks.length) :
    ∃ v' H', ecall T f_slices_Clonestore_Entrystore_Entry [v] H = some (v', H') ∧ Elems 5 v' (L.map entG) ∧ TokStep none H H' := by
  have key : optW (ecall T f_slices_Clonestore_Entrystore_Entry [v] H) fun r => Elems 5 r.1 (L.map entG) ∧ TokStep none H r.2 := by
    rw [ecall_0 T_slices_Clonestore_Entrystore_Entry rfl (by simp [F_slices_Clonestore_Entrystore_Entry]), wp_fin1]
    obtain ⟨o1, H1, a1, A1, s1, _⟩ := append_ok (H := H) (ty := 71) (sz := 5) (bytes := 48) (s := .sl 5 [] .exact) (x := v) (xs := []) (ys := L.map entG) (.exact []) hv.news hbt (by simp [room]; omega) (by simp [maxLen]; omega)
    simp only [List.nil_append] at A1
    have hn : v = .nilsl ∨ (∃ xs t, v = .sl 5 xs t) := by
      generalize L.map entG = z at hv
      cases hv
      · exact .inl rfl
      · exact .inr ⟨_, _, rfl⟩
    have u1 : ∀ t, unbox t o1 = o1 := elemsUnbox A1.elems
    have uv := elemsUnbox hv
    have k1 := A1.ok
    rcases hn with rfl | ⟨xs, t, rfl⟩
    · have : L.map entG = [] := by
        generalize L.map entG = z at hv
        cases hv; rfl
      rw [this]
      simp [F_slices_Clonestore_Entrystore_Entry, b_slices_Clonestore_Entrystore_Entry]
      exact ⟨.nil, .refl _ _⟩
    · simp [F_slices_Clonestore_Entrystore_Entry, b_slices_Clonestore_Entrystore_Entry, gSetAll, a1, u1, k1]
      exact ⟨by simpa using A1.elems, by simpa [tokOf] using s1⟩
  obtain ⟨⟨v', H'⟩, h1, h2, h3⟩ := key
  exact ⟨v', H', h1, h2, h3⟩

/-- A store: where it lies, and its map. -/
structure SAt (H : GH) (s m : Nat) (es : List (GV × GV)) : Prop where
  os : H.objs[s]? = some (.cells 145 [.map m])
  om : H.objs[m]? = some (.map true kLs es)
  bo : H.bo ≤ m

def layM (es : List (GV × GV)) (x : El) (L : List Ent) (v : GV) : List (GV × GV) := if L = [] then mapDel es (elG x) else mapPut es (elG x) v

theorem store_lay {H : GH} {s m : Nat} {es : List (GV × GV)} (hs : SAt H s m es) (x : El) (hx : ElFit x) (hr : ElRange x) (L : List Ent) (v : GV) (hv : Elems 5 v (L.map entG)) :
    ecall T f_store_Store_lay [.ptr s 0, elG x, v] H = some (.tup [], { H with objs := H.objs.set m (.map true kLs (layM es x L v)) }) := by
  obtain ⟨h1, h2, h3⟩ := hs
  have hk := el_key hx hr
  have hl := hv.len
  have hu := elemsUnbox hv
  have hok := hv.ok
  simp only [elG, elC] at hk
  apply optW.eq
  rw [ecall_0 T_store_Store_lay rfl (by simp [F_store_Store_lay]), wp_fin1]
  unfold layM
  cases L with
  | nil =>
    simp at hl
    simp [F_store_Store_lay, b_store_Store_lay, elC, hl, hu, h1, h2, h3, hk]
    rfl
  | cons y L =>
    have hne : ¬ ((L.length : Int) + 1 = 0) := by omega
    simp at hl
    simp [F_store_Store_lay, b_store_Store_lay, elC, hl, hu, h1, h2, h3, hk, hne, hok]
    rfl

instance : Inhabited Ent := ⟨⟨0, 0, 0, 0, []⟩⟩

def okAt (x : El) (L : List Ent) (i : Nat) : Bool := entryB x (L.getD i default) && (decide (i = 0) || decide (ordD (L.getD (i - 1) default) (L.getD i default) < 0))
def okPutB (x : El) (L : List Ent) : Bool := elemV x.k x.a x.b x.c x.d && (List.range L.length).all (okAt x L)

theorem range_all_succ (p : Nat → Bool) (i : Nat) : (List.range (i + 1)).all p = ((List.range i).all p && p i) := by
  rw [List.range_succ, List.all_append]; simp

def itemC (x : El) (v : GV) : List GV := elC x ++ [v]

theorem store_Put {H : GH} {s m : Nat} {es : List (GV × GV)} (hs : SAt H s m es) (x : El) (hx : ElFit x) (hr : ElRange x) (L : List Ent) (hL : L.length ≤ 100000) (hfit : ∀ e ∈ L, EntFit e) (v : GV) (hv : Elems 5 v (L.map entG)) (hbt : H.bt ≤ H.toks.length) :
    ∃ H', ecall T f_store_Store_Put [.ptr s 0, .agg (itemC x v)] H = some (.int .i64 (if okPutB x L then 0 else 1), H') ∧
      ((okPutB x L = false ∧ H' = H) ∨ (okPutB x L = true ∧ ∃ v' H1, Elems 5 v' (L.map entG) ∧ TokStep none H H1 ∧ H' = { H1 with objs := H1.objs.set m (.map true kLs (layM es x L v')) })) := by
  have he := fun H => value_Elem x.k x.a x.b x.c x.d (by have := hx.a; omega) (by have := hx.b; omega) (by have := hx.c; omega) (by have := hx.d; omega) H
  have hl := hv.len
  have hu := elemsUnbox hv
  have hok := hv.ok
  have hone := hv.one
  have hcel := hv.cells
  have key : optW (ecall T f_store_Store_Put [.ptr s 0, .agg (itemC x v)] H) fun r => r.1 = .int .i64 (if okPutB x L then 0 else 1) ∧
      ((okPutB x L = false ∧ r.2 = H) ∨ (okPutB x L = true ∧ ∃ v' H1, Elems 5 v' (L.map entG) ∧ TokStep none H H1 ∧ r.2 = { H1 with objs := H1.objs.set m (.map true kLs (layM es x L v')) })) := by
    rw [ecall_0 T_store_Store_Put rfl (by simp [F_store_Store_Put]), wp_fin1]
    simp only [F_store_Store_Put, b_store_Store_Put]
    cases hel : elemV x.k x.a x.b x.c x.d with
    | false =>
      rw [hel] at he
      simp [itemC, elC, he, okPutB, hel, hok]
    | true =>
      rw [hel] at he
      simp [itemC, elC, he, hok, hl, hu]
      rw [wp_seqK, wp_blockK]
      refine range_loop (T := T) (n := L.length) (A := Unit) (fun _ _ => [(0, .ptr s 0), (3, .lbox 0 (elC x ++ [v]))]) (fun i _ _ H' => H' = H ∧ (List.range i).all (okAt x L) = true) (c := 19) (b := 0) (I := 18) (N := 17) (d := 43) rfl (by omega) (by decide) ⟨rfl, rfl⟩ (by simp) ?_ ?_ 0 () _ _ H (by omega) ⟨rfl, rfl⟩ (by simp [elC]) (.refl _ _ _) (by simp) (by simp)
      · intro i a l g H' hi ⟨hH, hall⟩ hh hf hI
        subst hH
        have h16 := hf.get 16 rfl (v := v) (by simp [hu]) (by simp [hv.boxy])
        obtain ⟨lt, ix, opt, get, ⟨t, sl⟩, wr_, mem⟩ := at_ok (e := entG) hv hi (by omega)
        generalize L[i]'hi = e at opt get mem
        have hgd : L.getD i default = e := by simp [List.getD, opt]
        have hen := fun H => store_entry x e hx (hfit e mem) H
        simp only [elG, entG, elC, entC] at hen
        simp only [Holds_cons, Holds_nil, and_true, elC] at hh
        obtain ⟨hh0, hh3⟩ := hh
        have hbad : okAt x L i = false → okPutB x L = false := fun h => by
          have : (List.range L.length).all (okAt x L) = false := by
            rw [Bool.eq_false_iff]; intro h'
            rw [List.all_eq_true.1 h' i (List.mem_range.2 hi)] at h; cases h
          simp [okPutB, this]
        rw [sl] at h16
        cases hb : entryB x e with
        | false =>
          rw [hb] at hen
          have hp := hbad (by simp only [okAt, hgd, hb, Bool.false_and])
          simp [h16, hI, hh0, hh3, ix, opt, get, entC, setPart, hen, hp]
        | true =>
          rw [hb] at hen
          rcases Nat.eq_zero_or_pos i with rfl | hpos
          · have hk : okAt x L 0 = true := by simp only [okAt, hgd, hb]; rfl
            simp at hI ix
            simp [h16, hI, hh0, hh3, ix, opt, get, entC, setPart, hen]
            intro hf'
            exact ⟨by simpa using hk, by simp [elC]⟩
          · have hi1 : i - 1 < L.length := by omega
            obtain ⟨lt1, ix1, opt1, get1, _, _, _⟩ := at_ok (e := entG) hv hi1 (by omega)
            generalize L[i - 1]'hi1 = p at opt1 get1
            have hgd1 : L.getD (i - 1) default = p := by simp [List.getD, opt1]
            have hw : IntKind.i64.wrap ((i : Int) - 1) = ((i - 1 : Nat) : Int) := by rw [wrap_i64' (by omega) (by omega)]; omega
            have hbd := fun H => store_byDot p e H
            simp only [entC] at hbd
            have hpi : (0 : Int) < i := by omega
            have hko : okAt x L i = decide (ordD p e < 0) := by
              have : i ≠ 0 := by omega
              simp only [okAt, hgd, hgd1, hb, this, decide_false, Bool.false_or, Bool.true_and]
            by_cases hord : ordD p e < 0
            · have hge : ¬ (0 ≤ ordD p e) := by omega
              have hk : okAt x L i = true := by rw [hko]; simpa using hord
              have hall' : (List.range (i + 1)).all (okAt x L) = true := by rw [range_all_succ, hall, hk]; rfl
              subst sl
              simp [h16, hI, hh0, hh3, ix, opt, get, entC, setPart, hen, hpi, hpos, hw, ix1, opt1, get1, hbd, hge]
              intro hf'
              exact ⟨by simpa using hall', by simp [elC]⟩
            · have hge : 0 ≤ ordD p e := by omega
              have hp := hbad (by rw [hko]; simpa using hge)
              subst sl
              simp [h16, hI, hh0, hh3, ix, opt, get, entC, setPart, hen, hpi, hpos, hw, ix1, opt1, get1, hbd, hge, hp]
      · intro a l g H' ⟨hH, hall⟩ hh hf
        subst hH
        have hp : okPutB x L = true := by simp only [okPutB, hel, hall, Bool.and_self]
        simp only [Holds_cons, Holds_nil, and_true, elC] at hh
        obtain ⟨hh0, hh3⟩ := hh
        obtain ⟨v', H1, c1, c2, c3⟩ := clone_ent L v hv (by omega) H' hbt
        have hlay := store_lay (H := H1) (s := s) (m := m) (es := es) ⟨by rw [c3.objs]; exact hs.os, by rw [c3.objs]; exact hs.om, by rw [c3.bo]; exact hs.bo⟩ x hx hr L v' c2
        simp only [elG, elC] at hlay
        have hok' := c2.ok
        have hu' := elemsUnbox c2
        simp [hh0, hh3, hu, hok, c1, hok', hu', hlay, hp]
        exact ⟨v', c2, H1, c3, rfl, rfl, rfl, rfl⟩
  obtain ⟨⟨r, H'⟩, h1, h2, h3⟩ := key
  simp only at h2 h3
  exact ⟨H', by rw [h1, h2], h3⟩
end Go.Proofs.YthbhfipgdinihaaGreatDoor
