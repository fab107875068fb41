/- Own work: the zaL machine and what it shows, part Ev. -/
import Derived.Test.YtchjbidfmhmmhaaGreatDoorEl
set_option linter.all false
namespace Go.Proofs.YtchjbidfmhmmhaaGreatDoor
open Go.Sh
set_option maxRecDepth 100000
def zlD (k n:Int) (t:List UInt8):Bool := decide (k = 0 ∧ n = 0 ∧ t = [])
def zlE (op:Int) (x:El) (vk vn:Int) (vt:List UInt8):Bool :=
  zbq x.k x.a x.b x.c x.d && (if op = 1 ∨ op = 2 then zlD vk vn vt && decide (x.k < 4) else if op = 3 then decide (4 ≤ x.k) && (decide (1 ≤ vk ∧ vk ≤ 3) && zh5 vk vn vt) else if op = 4 then zlD vk vn vt && decide (4 ≤ x.k) else false)
structure ElFit (x:El):Prop where
  a:x.a.length ≤ 1048576
  b:x.b.length ≤ 1048576
  c:x.c.length ≤ 1048576
  d:x.d.length ≤ 1048576
def chC (op:Int) (x:El) (vk vn:Int) (vt:List UInt8):List GV := .int .i64 op :: (elC x ++ [.int .i64 vk,.int .i64 vn,.str (mkB vt)])
theorem zg9 (k n:Int) (t:List UInt8):zaB [.int .i64,.int .i64,.str] [.int .i64 k,.int .i64 n,.str (mkB t)] [.int .i64 0,.int .i64 0,.str ⟨#[]⟩] = some (zlD k n t) := by
  have:zlD k n t = (decide (k = 0) && (decide (n = 0) && (decide (t = []) && true))) := by
    rw [Bool.eq_iff_iff]; simp [zlD]
  rw [this]
  by_cases h1:k = 0 <;> by_cases h2:n = 0 <;> by_cases h3:t = [] <;> simp [zaB,h1,h2,h3]
theorem znP (x:El) (H:GH):ecall T zxR [.agg (elC x)] H = some (.bool (decide (x.k = 4 ∨ x.k = 5)),H) := by
  apply optW.eq
  rw [zad zDh rfl (by simp [zxS]),zab]
  by_cases h:x.k = 4
  · simp [zxS,zBw,elC,h]
  · simp [zxS,zBw,elC,h]
theorem zkc (k n:Int) (t:List UInt8) (h1 : -9223372036854775808 ≤ n) (h2:n ≤ 9223372036854775807) (H:GH) :
    ecall T zuj [.agg [.int .i64 k,.int .i64 n,.str (mkB t)]] H = some (.bool (decide (1 ≤ k ∧ k ≤ 3) && zh5 k n t),H) := by
  have hr := fun (q1:1 ≤ k) (q2:k ≤ 3) H => zmV k n (mkB t) (.inl ⟨q1,q2⟩) h1 h2 H
  simp only [zbu] at hr
  apply optW.eq
  rw [zad zCo rfl (by simp [zlX]),zab]
  by_cases a1:1 ≤ k
  · by_cases a2:k ≤ 3
    · have hr' := hr a1 a2
      simp [zlX,zup,a1,a2,hr']
    · simp [zlX,zup,a1,a2]
  · simp [zlX,zup,a1]
theorem zm5 {x:El} (h:zbq x.k x.a x.b x.c x.d = true):decide (x.k = 4 ∨ x.k = 5) = decide (4 ≤ x.k) ∧ (!decide (4 ≤ x.k)) = decide (x.k < 4) := by
  rcases zh6 h with h | h | h | h | h <;> rw [h] <;> decide
theorem zpY (op:Int) (x:El) (vk vn:Int) (vt:List UInt8) (hx:ElFit x) (h1 : -9223372036854775808 ≤ vn) (h2:vn ≤ 9223372036854775807) (H:GH) :
    ecall T zAS [.agg (chC op x vk vn vt)] H = some (.bool (zlE op x vk vn vt),H) := by
  have he := fun H => znM x.k x.a x.b x.c x.d (by have := hx.a; omega) (by have := hx.b; omega) (by have := hx.c; omega) (by have := hx.d; omega) H
  have hk := fun H => znP x H
  have hs := fun H => zkc vk vn vt h1 h2 H
  have hn := zg9 vk vn vt
  simp only [elC] at hk
  apply optW.eq
  rw [zad zDg rfl (by simp [ztp]),zab]
  unfold zlE
  cases hel:zbq x.k x.a x.b x.c x.d with
  | false =>
    rw [hel] at he
    simp [ztp,zwC,chC,elC,he]
  | true =>
    obtain ⟨k1,k2⟩ := zm5 hel
    rw [hel] at he
    rw [k1] at hk
    rw [← k2]
    generalize decide (4 ≤ x.k) = kp at hk ⊢
    cases hv:zlD vk vn vt
    all_goals rw [hv] at hn
    all_goals
      by_cases o1:op = 1
      · cases kp <;> simp [ztp,zwC,chC,elC,he,hk,hn,zaU,o1]
      by_cases o2:op = 2
      · cases kp <;> simp [ztp,zwC,chC,elC,he,hk,hn,zaU,o2]
      by_cases o3:op = 3
      · cases kp <;> simp [ztp,zwC,chC,elC,he,hk,hn,hs,zaU,o3]
      by_cases o4:op = 4
      · cases kp <;> simp [ztp,zwC,chC,elC,he,hk,hn,zaU,o4]
      simp [ztp,zwC,chC,elC,he,hk,hn,zaU,o1,o2,o3,o4]
theorem zkd (op:Int) (x:El) (vk vn:Int) (vt:List UInt8) (hx:ElFit x) (h1 : -9223372036854775808 ≤ vn) (h2:vn ≤ 9223372036854775807) (H:GH) :
    ecall T zAQ [.agg (chC op x vk vn vt)] H = some (.int .i64 (if zlE op x vk vn vt then 0 else 1),H) := by
  have hm := fun H => zpY op x vk vn vt hx h1 h2 H
  simp only [chC,elC,List.cons_append,List.nil_append] at hm
  apply optW.eq
  rw [zad zDe rfl (by simp [zzc]),zab]
  cases hb:zlE op x vk vn vt <;> rw [hb] at hm <;> simp [zzc,zCP,chC,elC,hm]
theorem znQ (op:Int) (x:El) (vk vn:Int) (vt:List UInt8) (hx:ElFit x) (ht:vt.length ≤ 1048576) (H:GH) :
    ecall T zt7 [.agg (chC op x vk vn vt)] H = some (.bool (zlE op x vk vn vt),H) := by
  have he := fun H => ztL x.k x.a x.b x.c x.d (by have := hx.a; omega) (by have := hx.b; omega) (by have := hx.c; omega) (by have := hx.d; omega) H
  have hr := fun H => ztg vk vn (mkB vt) (by rw [zjV]; omega) H
  simp only [zbu] at hr
  have hn := zg9 vk vn vt
  apply optW.eq
  rw [zad zB7 rfl (by simp [zhd]),zab]
  unfold zlE
  cases hel:zbq x.k x.a x.b x.c x.d with
  | false =>
    rw [hel] at he
    simp [zhd,zkl,chC,elC,he]
  | true =>
    obtain ⟨k1,k2⟩ := zm5 hel
    rw [hel] at he
    rw [← k2]
    cases hv:zlD vk vn vt
    all_goals rw [hv] at hn
    all_goals
      by_cases kp:4 ≤ x.k
      all_goals
        by_cases o1:op = 1
        · simp [zhd,zkl,chC,elC,he,hn,zaU,kp,o1]
        by_cases o2:op = 2
        · simp [zhd,zkl,chC,elC,he,hn,zaU,kp,o2]
        by_cases o3:op = 3
        · by_cases a1:1 ≤ vk
          · by_cases a2:vk ≤ 3 <;> simp [zhd,zkl,chC,elC,he,hn,hr,zaU,kp,o3,a1,a2]
          · simp [zhd,zkl,chC,elC,he,hn,hr,zaU,kp,o3,a1]
        by_cases o4:op = 4
        · simp [zhd,zkl,chC,elC,he,hn,zaU,kp,o4]
        simp [zhd,zkl,chC,elC,he,hn,zaU,kp,o1,o2,o3,o4]
structure Evt where
  r:Int
  c:Int
  past:List Int
  op:Int
  x:El
  vk:Int
  vn:Int
  vt:List UInt8
def zto (e:Evt):List GV := .int .i64 e.op :: (elC e.x ++ [.int .i64 e.vk,.int .i64 e.vn,.str (mkB e.vt)])
def evC (e:Evt):List GV := .int .i64 e.r :: .int .i64 e.c :: ((e.past.map fun n => GV.int .i64 n) ++ zto e)
structure EvFit (e:Evt):Prop where
  past:e.past.length = 16
  x:ElFit e.x
  t:e.vt.length ≤ 1048576
  n1 : -9223372036854775808 ≤ e.vn
  n2:e.vn ≤ 9223372036854775807
section
variable {e:Evt} (hp:e.past.length = 16)
include hp
theorem zcY:(evC e).length = 27 := by simp [evC,zto,elC,hp]
theorem zf2:List.take 16 (List.drop 2 (evC e)) = e.past.map fun n => GV.int .i64 n := by
  have:List.drop 2 (evC e) = (e.past.map fun n => GV.int .i64 n) ++ zto e := rfl
  rw [this,List.take_left' (by simp [hp])]
theorem ztQ (k:Nat):List.drop (18 + k) (evC e) = (zto e).drop k := by
  have:List.drop (18 + k) (evC e) = List.drop (16 + k) ((e.past.map fun n => GV.int .i64 n) ++ zto e) := by
    rw [show 18 + k = (16 + k) + 2 by omega]; rfl
  rw [this,← List.drop_drop,List.drop_left' (by simp [hp])]
theorem znR:(evC e)[18]? = some (.int .i64 e.op) := by
  have := congrArg (·[0]?) (ztQ hp 0)
  simpa [zto] using this
theorem zke:∀ h:18 < (evC e).length,(evC e)[18]'h = .int .i64 e.op := fun h => by
  have := znR hp
  rw [List.getElem?_eq_getElem h] at this
  exact Option.some.inj this
theorem zlF:List.take 5 (List.drop 19 (evC e)) = elC e.x := by
  rw [show 19 = 18 + 1 from rfl,ztQ hp 1]; rfl
theorem zpZ:List.take 3 (List.drop 24 (evC e)) = [.int .i64 e.vk,.int .i64 e.vn,.str (mkB e.vt)] := by
  rw [show 24 = 18 + 6 from rfl,ztQ hp 6]; rfl
theorem zha:(evC e).all GV.one = true := by
  simp [evC,zto,elC]
end
theorem zkf (e:Evt):List.take 2 (evC e) = [.int .i64 e.r,.int .i64 e.c] := rfl
def evB (e:Evt):Bool := (zj9 e.past e.r e.c && zv0 e.past) && zlE e.op e.x e.vk e.vn e.vt
theorem ztR (e:Evt) (h:EvFit e) (H:GH):ecall T zAR [.agg (evC e)] H = some (.agg (chC e.op e.x e.vk e.vn e.vt),H) := by
  have l1 := zcY h.past
  have l2 := znR h.past
  have l2' := zke h.past
  have l3 := zlF h.past
  have l4 := zpZ h.past
  apply optW.eq
  rw [zad zDf rfl (by simp [zzd]),zab]
  simp only [elC] at l3
  simp [zzd,zCQ,l1,l2,l2',l3,l4,zaU,zae,chC,elC]
theorem zlG (e:Evt) (h:EvFit e) (H:GH):ecall T zAP [.agg (evC e)] H = some (.int .i64 (if evB e then 0 else 1),H) := by
  have l1 := zcY h.past
  have l2 := zf2 h.past
  have l3 := zkf e
  have l4:List.take 27 (evC e) = evC e := List.take_of_length_le (by rw [l1]; exact Nat.le_refl _)
  have hn := fun H => zlC e.past h.past e.r e.c H
  have hv := fun H => zkb e.past h.past H
  have ho := fun H => ztR e h H
  have hc := fun H => zkd e.op e.x e.vk e.vn e.vt h.x h.n1 h.n2 H
  simp only [znN] at hn hv
  apply optW.eq
  rw [zad zDd rfl (by simp [zwt]),zab]
  unfold evB
  cases h1:zj9 e.past e.r e.c with
  | false =>
    rw [h1] at hn
    simp [zwt,zAT,l1,l2,l3,hn]
  | true =>
    rw [h1] at hn
    cases h2:zv0 e.past with
    | false =>
      rw [h2] at hv
      simp [zwt,zAT,l1,l2,l3,hn,hv]
    | true =>
      rw [h2] at hv
      simp [zwt,zAT,l1,l2,l3,l4,hn,hv,ho,hc]
end Go.Proofs.YtchjbidfmhmmhaaGreatDoor
