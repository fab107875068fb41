/- Own work: the shadow machine and what it shows, part Ev. -/
import Derived.Test.YthmplnbogdfajaaGreatDoorEl
set_option linter.all false
namespace Go.Proofs.YthmplnbogdfajaaGreatDoor
open Go.Sh
set_option maxRecDepth 100000
def vnone (k n : Int) (t : List UInt8) : Bool := decide (k = 0 ∧ n = 0 ∧ t = [])
def mayB (op : Int) (x : El) (vk vn : Int) (vt : List UInt8) : Bool :=
  elemV x.k x.a x.b x.c x.d && (if op = 1 ∨ op = 2 then vnone vk vn vt && decide (x.k < 4) else if op = 3 then decide (4 ≤ x.k) && (decide (1 ≤ vk ∧ vk ≤ 3) && rightV vk vn vt) else if op = 4 then vnone vk vn vt && decide (4 ≤ x.k) else false)
structure ElFit (x : El) : Prop where
  a : x.a.length ≤ 1048576
  b : x.b.length ≤ 1048576
  c : x.c.length ≤ 1048576
  d : x.d.length ≤ 1048576
def chC (op : Int) (x : El) (vk vn : Int) (vt : List UInt8) : List GV := .int .i64 op :: (elC x ++ [.int .i64 vk, .int .i64 vn, .str (mkB vt)])
theorem leaves_none (k n : Int) (t : List UInt8) : leavesEq [.int .i64, .int .i64, .str] [.int .i64 k, .int .i64 n, .str (mkB t)] [.int .i64 0, .int .i64 0, .str ⟨#[]⟩] = some (vnone k n t) := by
  have : vnone k n t = (decide (k = 0) && (decide (n = 0) && (decide (t = []) && true))) := by
    rw [Bool.eq_iff_iff]; simp [vnone]
  rw [this]
  by_cases h1 : k = 0 <;> by_cases h2 : n = 0 <;> by_cases h3 : t = [] <;> simp [leavesEq, h1, h2, h3]
theorem event_kept (x : El) (H : GH) : ecall T f_x10 [.agg (elC x)] H = some (.bool (decide (x.k = 4 ∨ x.k = 5)), H) := by
  apply optW.eq
  rw [ecall_0 T_x10 rfl (by simp [F_x10]), wp_fin1]
  by_cases h : x.k = 4
  · simp [F_x10, b_x10, elC, h]
  · simp [F_x10, b_x10, elC, h]
theorem event_scalar (k n : Int) (t : List UInt8) (h1 : -9223372036854775808 ≤ n) (h2 : n ≤ 9223372036854775807) (H : GH) :
    ecall T f_x13 [.agg [.int .i64 k, .int .i64 n, .str (mkB t)]] H = some (.bool (decide (1 ≤ k ∧ k ≤ 3) && rightV k n t), H) := by
  have hr := fun (q1 : 1 ≤ k) (q2 : k ≤ 3) H => value_Right k n (mkB t) (.inl ⟨q1, q2⟩) h1 h2 H
  simp only [mkB_data] at hr
  apply optW.eq
  rw [ecall_0 T_x13 rfl (by simp [F_x13]), wp_fin1]
  by_cases a1 : 1 ≤ k
  · by_cases a2 : k ≤ 3
    · have hr' := hr a1 a2
      simp [F_x13, b_x13, a1, a2, hr']
    · simp [F_x13, b_x13, a1, a2]
  · simp [F_x13, b_x13, a1]
theorem kept_iff {x : El} (h : elemV x.k x.a x.b x.c x.d = true) : decide (x.k = 4 ∨ x.k = 5) = decide (4 ≤ x.k) ∧ (!decide (4 ≤ x.k)) = decide (x.k < 4) := by
  rcases elem_kind h with h | h | h | h | h <;> rw [h] <;> decide
theorem event_may (op : Int) (x : El) (vk vn : Int) (vt : List UInt8) (hx : ElFit x) (h1 : -9223372036854775808 ≤ vn) (h2 : vn ≤ 9223372036854775807) (H : GH) :
    ecall T f_x11 [.agg (chC op x vk vn vt)] H = some (.bool (mayB op x vk vn vt), H) := by
  have he := fun H => value_Elem x.k x.a x.b x.c x.d (by have := hx.a; omega) (by have := hx.b; omega) (by have := hx.c; omega) (by have := hx.d; omega) H
  have hk := fun H => event_kept x H
  have hs := fun H => event_scalar vk vn vt h1 h2 H
  have hn := leaves_none vk vn vt
  simp only [elC] at hk
  apply optW.eq
  rw [ecall_0 T_x11 rfl (by simp [F_x11]), wp_fin1]
  unfold mayB
  cases hel : elemV x.k x.a x.b x.c x.d with
  | false =>
    rw [hel] at he
    simp [F_x11, b_x11, chC, elC, he]
  | true =>
    obtain ⟨k1, k2⟩ := kept_iff hel
    rw [hel] at he
    rw [k1] at hk
    rw [← k2]
    generalize decide (4 ≤ x.k) = kp at hk ⊢
    cases hv : vnone vk vn vt
    all_goals rw [hv] at hn
    all_goals
      by_cases o1 : op = 1
      · cases kp <;> simp [F_x11, b_x11, chC, elC, he, hk, hn, gFill, o1]
      by_cases o2 : op = 2
      · cases kp <;> simp [F_x11, b_x11, chC, elC, he, hk, hn, gFill, o2]
      by_cases o3 : op = 3
      · cases kp <;> simp [F_x11, b_x11, chC, elC, he, hk, hn, hs, gFill, o3]
      by_cases o4 : op = 4
      · cases kp <;> simp [F_x11, b_x11, chC, elC, he, hk, hn, gFill, o4]
      simp [F_x11, b_x11, chC, elC, he, hk, hn, gFill, o1, o2, o3, o4]
theorem event_Change (op : Int) (x : El) (vk vn : Int) (vt : List UInt8) (hx : ElFit x) (h1 : -9223372036854775808 ≤ vn) (h2 : vn ≤ 9223372036854775807) (H : GH) :
    ecall T f_x5 [.agg (chC op x vk vn vt)] H = some (.int .i64 (if mayB op x vk vn vt then 0 else 1), H) := by
  have hm := fun H => event_may op x vk vn vt hx h1 h2 H
  simp only [chC, elC, List.cons_append, List.nil_append] at hm
  apply optW.eq
  rw [ecall_0 T_x5 rfl (by simp [F_x5]), wp_fin1]
  cases hb : mayB op x vk vn vt <;> rw [hb] at hm <;> simp [F_x5, b_x5, chC, elC, hm]
theorem ref_Change (op : Int) (x : El) (vk vn : Int) (vt : List UInt8) (hx : ElFit x) (ht : vt.length ≤ 1048576) (H : GH) :
    ecall T f_x22 [.agg (chC op x vk vn vt)] H = some (.bool (mayB op x vk vn vt), H) := by
  have he := fun H => ref_Elem x.k x.a x.b x.c x.d (by have := hx.a; omega) (by have := hx.b; omega) (by have := hx.c; omega) (by have := hx.d; omega) H
  have hr := fun H => ref_Right vk vn (mkB vt) (by rw [mkB_size]; omega) H
  simp only [mkB_data] at hr
  have hn := leaves_none vk vn vt
  apply optW.eq
  rw [ecall_0 T_x22 rfl (by simp [F_x22]), wp_fin1]
  unfold mayB
  cases hel : elemV x.k x.a x.b x.c x.d with
  | false =>
    rw [hel] at he
    simp [F_x22, b_x22, chC, elC, he]
  | true =>
    obtain ⟨k1, k2⟩ := kept_iff hel
    rw [hel] at he
    rw [← k2]
    cases hv : vnone vk vn vt
    all_goals rw [hv] at hn
    all_goals
      by_cases kp : 4 ≤ x.k
      all_goals
        by_cases o1 : op = 1
        · simp [F_x22, b_x22, chC, elC, he, hn, gFill, kp, o1]
        by_cases o2 : op = 2
        · simp [F_x22, b_x22, chC, elC, he, hn, gFill, kp, o2]
        by_cases o3 : op = 3
        · by_cases a1 : 1 ≤ vk
          · by_cases a2 : vk ≤ 3 <;> simp [F_x22, b_x22, chC, elC, he, hn, hr, gFill, kp, o3, a1, a2]
          · simp [F_x22, b_x22, chC, elC, he, hn, hr, gFill, kp, o3, a1]
        by_cases o4 : op = 4
        · simp [F_x22, b_x22, chC, elC, he, hn, gFill, kp, o4]
        simp [F_x22, b_x22, chC, elC, he, hn, gFill, kp, o1, o2, o3, o4]
structure Evt where
  r : Int
  c : Int
  past : List Int
  op : Int
  x : El
  vk : Int
  vn : Int
  vt : List UInt8
def evTl (e : Evt) : List GV := .int .i64 e.op :: (elC e.x ++ [.int .i64 e.vk, .int .i64 e.vn, .str (mkB e.vt)])
def evC (e : Evt) : List GV := .int .i64 e.r :: .int .i64 e.c :: ((e.past.map fun n => GV.int .i64 n) ++ evTl e)
structure EvFit (e : Evt) : Prop where
  past : e.past.length = 16
  x : ElFit e.x
  t : e.vt.length ≤ 1048576
  n1 : -9223372036854775808 ≤ e.vn
  n2 : e.vn ≤ 9223372036854775807
section
variable {e : Evt} (hp : e.past.length = 16)
include hp
theorem ev_len : (evC e).length = 27 := by simp [evC, evTl, elC, hp]
theorem ev_past : List.take 16 (List.drop 2 (evC e)) = e.past.map fun n => GV.int .i64 n := by
  have : List.drop 2 (evC e) = (e.past.map fun n => GV.int .i64 n) ++ evTl e := rfl
  rw [this, List.take_left' (by simp [hp])]
theorem ev_tl (k : Nat) : List.drop (18 + k) (evC e) = (evTl e).drop k := by
  have : List.drop (18 + k) (evC e) = List.drop (16 + k) ((e.past.map fun n => GV.int .i64 n) ++ evTl e) := by
    rw [show 18 + k = (16 + k) + 2 by omega]; rfl
  rw [this, ← List.drop_drop, List.drop_left' (by simp [hp])]
theorem ev_18 : (evC e)[18]? = some (.int .i64 e.op) := by
  have := congrArg (·[0]?) (ev_tl hp 0)
  simpa [evTl] using this
theorem ev_18' : ∀ h : 18 < (evC e).length, (evC e)[18]'h = .int .i64 e.op := fun h => by
  have := ev_18 hp
  rw [List.getElem?_eq_getElem h] at this
  exact Option.some.inj this
theorem ev_el : List.take 5 (List.drop 19 (evC e)) = elC e.x := by
  rw [show 19 = 18 + 1 from rfl, ev_tl hp 1]; rfl
theorem ev_val : List.take 3 (List.drop 24 (evC e)) = [.int .i64 e.vk, .int .i64 e.vn, .str (mkB e.vt)] := by
  rw [show 24 = 18 + 6 from rfl, ev_tl hp 6]; rfl
theorem ev_one : (evC e).all GV.one = true := by
  simp [evC, evTl, elC]
end
theorem ev_dot (e : Evt) : List.take 2 (evC e) = [.int .i64 e.r, .int .i64 e.c] := rfl
theorem ev_0 (e : Evt) : (evC e)[0]? = some (.int .i64 e.r) := rfl
theorem ev_1 (e : Evt) : (evC e)[1]? = some (.int .i64 e.c) := rfl
def evB (e : Evt) : Bool := (nextB e.past e.r e.c && vecB e.past) && mayB e.op e.x e.vk e.vn e.vt
theorem event_Of (e : Evt) (h : EvFit e) (H : GH) : ecall T f_x6 [.agg (evC e)] H = some (.agg (chC e.op e.x e.vk e.vn e.vt), H) := by
  have l1 := ev_len h.past
  have l2 := ev_18 h.past
  have l2' := ev_18' h.past
  have l3 := ev_el h.past
  have l4 := ev_val h.past
  apply optW.eq
  rw [ecall_0 T_x6 rfl (by simp [F_x6]), wp_fin1]
  simp only [elC] at l3
  simp [F_x6, b_x6, l1, l2, l2', l3, l4, gFill, setPart, chC, elC]
theorem event_Right (e : Evt) (h : EvFit e) (H : GH) : ecall T f_x9 [.agg (evC e)] H = some (.int .i64 (if evB e then 0 else 1), H) := by
  have l1 := ev_len h.past
  have l2 := ev_past h.past
  have l3 := ev_dot e
  have l4 : List.take 27 (evC e) = evC e := List.take_of_length_le (by rw [l1]; exact Nat.le_refl _)
  have hn := fun H => vector_Next e.past h.past e.r e.c H
  have hv := fun H => vector_Right e.past h.past H
  have ho := fun H => event_Of e h H
  have hc := fun H => event_Change e.op e.x e.vk e.vn e.vt h.x h.n1 h.n2 H
  simp only [vecG] at hn hv
  apply optW.eq
  rw [ecall_0 T_x9 rfl (by simp [F_x9]), wp_fin1]
  unfold evB
  cases h1 : nextB e.past e.r e.c with
  | false =>
    rw [h1] at hn
    simp [F_x9, b_x9, l1, l2, l3, hn]
  | true =>
    rw [h1] at hn
    cases h2 : vecB e.past with
    | false =>
      rw [h2] at hv
      simp [F_x9, b_x9, l1, l2, l3, hn, hv]
    | true =>
      rw [h2] at hv
      simp [F_x9, b_x9, l1, l2, l3, l4, hn, hv, ho, hc]
end Go.Proofs.YthmplnbogdfajaaGreatDoor
