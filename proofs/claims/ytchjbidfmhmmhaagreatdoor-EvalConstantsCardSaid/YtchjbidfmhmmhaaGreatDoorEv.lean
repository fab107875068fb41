/- Own work: the zaH machine and what it shows, part Ev. -/
import Derived.Test.YtchjbidfmhmmhaaGreatDoorEl
set_option linter.all false
namespace Go.Proofs.YtchjbidfmhmmhaaGreatDoor
open Go.Sh
set_option maxRecDepth 100000
def zm6 (k n:Int) (t:List UInt8):Bool := decide (k = 0 ∧ n = 0 ∧ t = [])
def zoW (op:Int) (x:El) (vk vn:Int) (vt:List UInt8):Bool :=
  zcM x.k x.a x.b x.c x.d && (if op = 1 ∨ op = 2 then zm6 vk vn vt && decide (x.k < 4) else if op = 3 then decide (4 ≤ x.k) && (decide (1 ≤ vk ∧ vk ≤ 3) && zbO vk vn vt) else if op = 4 then zm6 vk vn vt && decide (4 ≤ x.k) else false)
structure ElFit (x:El):Prop where
  a:x.a.length ≤ 1048576
  b:x.b.length ≤ 1048576
  c:x.c.length ≤ 1048576
  d:x.d.length ≤ 1048576
def chC (op:Int) (x:El) (vk vn:Int) (vt:List UInt8):List GV := .int .i64 op :: (elC x ++ [.int .i64 vk,.int .i64 vn,.str (mkB vt)])
theorem zkR (k n:Int) (t:List UInt8):zax [.int .i64,.int .i64,.str] [.int .i64 k,.int .i64 n,.str (mkB t)] [.int .i64 0,.int .i64 0,.str ⟨#[]⟩] = some (zm6 k n t) := by
  have:zm6 k n t = (decide (k = 0) && (decide (n = 0) && (decide (t = []) && true))) := by
    rw [Bool.eq_iff_iff]; simp [zm6]
  rw [this]
  by_cases h1:k = 0 <;> by_cases h2:n = 0 <;> by_cases h3:t = [] <;> simp [zax,h1,h2,h3]
theorem zm7 (x:El) (H:GH):ecall T zne [.agg (elC x)] H = some (.bool (decide (x.k = 4 ∨ x.k = 5)),H) := by
  apply optW.eq
  rw [zae zBb rfl (by simp [zns]),zab]
  by_cases h:x.k = 4
  · simp [zns,zvx,elC,h]
  · simp [zns,zvx,elC,h]
theorem zjq (k n:Int) (t:List UInt8) (h1 : -9223372036854775808 ≤ n) (h2:n ≤ 9223372036854775807) (H:GH) :
    ecall T zs8 [.agg [.int .i64 k,.int .i64 n,.str (mkB t)]] H = some (.bool (decide (1 ≤ k ∧ k ≤ 3) && zbO k n t),H) := by
  have hr := fun (q1:1 ≤ k) (q2:k ≤ 3) H => zhi k n (mkB t) (.inl ⟨q1,q2⟩) h1 h2 H
  simp only [zb3] at hr
  apply optW.eq
  rw [zae zBc rfl (by simp [zlg]),zab]
  by_cases a1:1 ≤ k
  · by_cases a2:k ≤ 3
    · have hr' := hr a1 a2
      simp [zlg,ztg,a1,a2,hr']
    · simp [zlg,ztg,a1,a2]
  · simp [zlg,ztg,a1]
theorem zsF {x:El} (h:zcM x.k x.a x.b x.c x.d = true):decide (x.k = 4 ∨ x.k = 5) = decide (4 ≤ x.k) ∧ (!decide (4 ≤ x.k)) = decide (x.k < 4) := by
  rcases zhj h with h | h | h | h | h <;> rw [h] <;> decide
theorem zpa (op:Int) (x:El) (vk vn:Int) (vt:List UInt8) (hx:ElFit x) (h1 : -9223372036854775808 ≤ vn) (h2:vn ≤ 9223372036854775807) (H:GH) :
    ecall T zs3 [.agg (chC op x vk vn vt)] H = some (.bool (zoW op x vk vn vt),H) := by
  have he := fun H => zm2 x.k x.a x.b x.c x.d (by have := hx.a; omega) (by have := hx.b; omega) (by have := hx.c; omega) (by have := hx.d; omega) H
  have hk := fun H => zm7 x H
  have hs := fun H => zjq vk vn vt h1 h2 H
  have hn := zkR vk vn vt
  simp only [elC] at hk
  apply optW.eq
  rw [zae zA3 rfl (by simp [zhB]),zab]
  unfold zoW
  cases hel:zcM x.k x.a x.b x.c x.d with
  | false =>
    rw [hel] at he
    simp [zhB,zlc,chC,elC,he]
  | true =>
    obtain ⟨k1,k2⟩ := zsF hel
    rw [hel] at he
    rw [k1] at hk
    rw [← k2]
    generalize decide (4 ≤ x.k) = kp at hk ⊢
    cases hv:zm6 vk vn vt
    all_goals rw [hv] at hn
    all_goals
      by_cases o1:op = 1
      · cases kp <;> simp [zhB,zlc,chC,elC,he,hk,hn,zar,o1]
      by_cases o2:op = 2
      · cases kp <;> simp [zhB,zlc,chC,elC,he,hk,hn,zar,o2]
      by_cases o3:op = 3
      · cases kp <;> simp [zhB,zlc,chC,elC,he,hk,hn,hs,zar,o3]
      by_cases o4:op = 4
      · cases kp <;> simp [zhB,zlc,chC,elC,he,hk,hn,zar,o4]
      simp [zhB,zlc,chC,elC,he,hk,hn,zar,o1,o2,o3,o4]
theorem zjr (op:Int) (x:El) (vk vn:Int) (vt:List UInt8) (hx:ElFit x) (h1 : -9223372036854775808 ≤ vn) (h2:vn ≤ 9223372036854775807) (H:GH) :
    ecall T zsU [.agg (chC op x vk vn vt)] H = some (.int .i64 (if zoW op x vk vn vt then 0 else 1),H) := by
  have hm := fun H => zpa op x vk vn vt hx h1 h2 H
  simp only [chC,elC,List.cons_append,List.nil_append] at hm
  apply optW.eq
  rw [zae zAN rfl (by simp [zpI]),zab]
  cases hb:zoW op x vk vn vt <;> rw [hb] at hm <;> simp [zpI,zxR,chC,elC,hm]
structure Evt where
  r:Int
  c:Int
  past:List Int
  op:Int
  x:El
  vk:Int
  vn:Int
  vt:List UInt8
def zvc (e:Evt):List GV := .int .i64 e.op :: (elC e.x ++ [.int .i64 e.vk,.int .i64 e.vn,.str (mkB e.vt)])
def evC (e:Evt):List GV := .int .i64 e.r :: .int .i64 e.c :: ((e.past.map fun n => GV.int .i64 n) ++ zvc e)
structure EvFit (e:Evt):Prop where
  past:e.past.length = 16
  x:ElFit e.x
  t:e.vt.length ≤ 1048576
  n1 : -9223372036854775808 ≤ e.vn
  n2:e.vn ≤ 9223372036854775807
section
variable {e:Evt} (hp:e.past.length = 16)
include hp
theorem zpb:(evC e).length = 27 := by simp [evC,zvc,elC,hp]
theorem zis:List.take 16 (List.drop 2 (evC e)) = e.past.map fun n => GV.int .i64 n := by
  have:List.drop 2 (evC e) = (e.past.map fun n => GV.int .i64 n) ++ zvc e := rfl
  rw [this,List.take_left' (by simp [hp])]
theorem zvd (k:Nat):List.drop (18 + k) (evC e) = (zvc e).drop k := by
  have:List.drop (18 + k) (evC e) = List.drop (16 + k) ((e.past.map fun n => GV.int .i64 n) ++ zvc e) := by
    rw [show 18 + k = (16 + k) + 2 by omega]; rfl
  rw [this,← List.drop_drop,List.drop_left' (by simp [hp])]
theorem zve:(evC e)[18]? = some (.int .i64 e.op) := by
  have := congrArg (·[0]?) (zvd hp 0)
  simpa [zvc] using this
theorem zuL:∀ h:18 < (evC e).length,(evC e)[18]'h = .int .i64 e.op := fun h => by
  have := zve hp
  rw [List.getElem?_eq_getElem h] at this
  exact Option.some.inj this
theorem zxo:List.take 5 (List.drop 19 (evC e)) = elC e.x := by
  rw [show 19 = 18 + 1 from rfl,zvd hp 1]; rfl
theorem zuM:List.take 3 (List.drop 24 (evC e)) = [.int .i64 e.vk,.int .i64 e.vn,.str (mkB e.vt)] := by
  rw [show 24 = 18 + 6 from rfl,zvd hp 6]; rfl
theorem zxp:(evC e).all GV.one = true := by
  simp [evC,zvc,elC]
end
theorem zuN (e:Evt):List.take 2 (evC e) = [.int .i64 e.r,.int .i64 e.c] := rfl
def evB (e:Evt):Bool := (zm4 e.past e.r e.c && zwM e.past) && zoW e.op e.x e.vk e.vn e.vt
theorem zsG (e:Evt) (h:EvFit e) (H:GH):ecall T zsV [.agg (evC e)] H = some (.agg (chC e.op e.x e.vk e.vn e.vt),H) := by
  have l1 := zpb h.past
  have l2 := zve h.past
  have l2' := zuL h.past
  have l3 := zxo h.past
  have l4 := zuM h.past
  apply optW.eq
  rw [zae zAO rfl (by simp [zpJ]),zab]
  simp only [elC] at l3
  simp [zpJ,zxS,l1,l2,l2',l3,l4,zar,zac,chC,elC]
theorem zkS (e:Evt) (h:EvFit e) (H:GH):ecall T zsJ [.agg (evC e)] H = some (.int .i64 (if evB e then 0 else 1),H) := by
  have l1 := zpb h.past
  have l2 := zis h.past
  have l3 := zuN e
  have l4:List.take 27 (evC e) = evC e := List.take_of_length_le (by rw [l1]; exact Nat.le_refl _)
  have hn := fun H => zkQ e.past h.past e.r e.c H
  have hv := fun H => zjp e.past h.past H
  have ho := fun H => zsG e h H
  have hc := fun H => zjr e.op e.x e.vk e.vn e.vt h.x h.n1 h.n2 H
  simp only [zm3] at hn hv
  apply optW.eq
  rw [zae zAt rfl (by simp [zk6]),zab]
  unfold evB
  cases h1:zm4 e.past e.r e.c with
  | false =>
    rw [h1] at hn
    simp [zk6,ztb,l1,l2,l3,hn]
  | true =>
    rw [h1] at hn
    cases h2:zwM e.past with
    | false =>
      rw [h2] at hv
      simp [zk6,ztb,l1,l2,l3,hn,hv]
    | true =>
      rw [h2] at hv
      simp [zk6,ztb,l1,l2,l3,l4,hn,hv,ho,hc]
end Go.Proofs.YtchjbidfmhmmhaaGreatDoor
