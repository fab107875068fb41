/- Own work: the zaN machine and what it shows, part Ev. -/
import Derived.Test.YtchjbidfmhmmhaaGreatDoorEl
set_option linter.all false
namespace Go.Proofs.YtchjbidfmhmmhaaGreatDoor
open Go.Sh
set_option maxRecDepth 100000
def zl7 (k n:Int) (t:List UInt8):Bool:=decide (k=0∧n=0∧t=[])
def zl8 (op:Int) (x:El) (vk vn:Int) (vt:List UInt8):Bool :=
  zbr x.k x.a x.b x.c x.d&&(if op=1∨op=2 then zl7 vk vn vt&&decide (x.k<4) else if op=3 then decide (4≤x.k)&&(decide (1≤vk∧vk≤3)&&zit vk vn vt) else if op=4 then zl7 vk vn vt&&decide (4≤x.k) else false)
structure ElFit (x:El):Prop where
  a:x.a.length≤1048576
  b:x.b.length≤1048576
  c:x.c.length≤1048576
  d:x.d.length≤1048576
def chC (op:Int) (x:El) (vk vn:Int) (vt:List UInt8):List GV:=.int .i64 op::(elC x++[.int .i64 vk,.int .i64 vn,.str (mkB vt)])
theorem zhu (k n:Int) (t:List UInt8):zaC [.int .i64,.int .i64,.str] [.int .i64 k,.int .i64 n,.str (mkB t)] [.int .i64 0,.int .i64 0,.str ⟨#[]⟩]=some (zl7 k n t):=by
  have:zl7 k n t=(decide (k=0)&&(decide (n=0)&&(decide (t=[])&&true))):=by
    rw [Bool.eq_iff_iff]; simp [zl7]
  rw [this]
  by_cases h1:k=0 <;> by_cases h2:n=0 <;> by_cases h3:t=[] <;> simp [zaC,h1,h2,h3]
theorem zov (x:El) (H:GH):ecall T zyR [.agg (elC x)] H=some (.bool (decide (x.k=4∨x.k=5)),H):=by
  apply optW.eq
  rw [zad zEu rfl (by simp [zyS]),zab]
  by_cases h:x.k=4
  · simp [zyS,zCE,elC,h]
  · simp [zyS,zCE,elC,h]
theorem zkC (k n:Int) (t:List UInt8) (h1 : -9223372036854775808≤n) (h2:n≤9223372036854775807) (H:GH) :
    ecall T zu9 [.agg [.int .i64 k,.int .i64 n,.str (mkB t)]] H=some (.bool (decide (1≤k∧k≤3)&&zit k n t),H):=by
  have hr:=fun (q1:1≤k) (q2:k≤3) H=>znv k n (mkB t) (.inl ⟨q1,q2⟩) h1 h2 H
  simp only [zbn] at hr
  apply optW.eq
  rw [zad zDB rfl (by simp [zmu]),zab]
  by_cases a1:1≤k
  · by_cases a2:k≤3
    · have hr':=hr a1 a2
      simp [zmu,zvg,a1,a2,hr']
    · simp [zmu,zvg,a1,a2]
  · simp [zmu,zvg,a1]
theorem znG {x:El} (h:zbr x.k x.a x.b x.c x.d=true):decide (x.k=4∨x.k=5)=decide (4≤x.k)∧(!decide (4≤x.k))=decide (x.k<4):=by
  rcases ziu h with h | h | h | h | h <;> rw [h] <;> decide
theorem zqI (op:Int) (x:El) (vk vn:Int) (vt:List UInt8) (hx:ElFit x) (h1 : -9223372036854775808≤vn) (h2:vn≤9223372036854775807) (H:GH) :
    ecall T zBY [.agg (chC op x vk vn vt)] H=some (.bool (zl8 op x vk vn vt),H):=by
  have he:=fun H=>zos x.k x.a x.b x.c x.d (by have:=hx.a; omega) (by have:=hx.b; omega) (by have:=hx.c; omega) (by have:=hx.d; omega) H
  have hk:=fun H=>zov x H
  have hs:=fun H=>zkC vk vn vt h1 h2 H
  have hn:=zhu vk vn vt
  simp only [elC] at hk
  apply optW.eq
  rw [zad zEt rfl (by simp [zuf]),zab]
  unfold zl8
  cases hel:zbr x.k x.a x.b x.c x.d with
  | false =>
    rw [hel] at he
    simp [zuf,zxz,chC,elC,he]
  | true =>
    obtain ⟨k1,k2⟩:=znG hel
    rw [hel] at he
    rw [k1] at hk
    rw [← k2]
    generalize decide (4≤x.k)=kp at hk ⊢
    cases hv:zl7 vk vn vt
    all_goals rw [hv] at hn
    all_goals
      by_cases o1:op=1
      · cases kp <;> simp [zuf,zxz,chC,elC,he,hk,hn,zaS,o1]
      by_cases o2:op=2
      · cases kp <;> simp [zuf,zxz,chC,elC,he,hk,hn,zaS,o2]
      by_cases o3:op=3
      · cases kp <;> simp [zuf,zxz,chC,elC,he,hk,hn,hs,zaS,o3]
      by_cases o4:op=4
      · cases kp <;> simp [zuf,zxz,chC,elC,he,hk,hn,zaS,o4]
      simp [zuf,zxz,chC,elC,he,hk,hn,zaS,o1,o2,o3,o4]
theorem zkD (op:Int) (x:El) (vk vn:Int) (vt:List UInt8) (hx:ElFit x) (h1 : -9223372036854775808≤vn) (h2:vn≤9223372036854775807) (H:GH) :
    ecall T zBW [.agg (chC op x vk vn vt)] H=some (.int .i64 (if zl8 op x vk vn vt then 0 else 1),H):=by
  have hm:=fun H=>zqI op x vk vn vt hx h1 h2 H
  simp only [chC,elC,List.cons_append,List.nil_append] at hm
  apply optW.eq
  rw [zad zEr rfl (by simp [zAf]),zab]
  cases hb:zl8 op x vk vn vt <;> rw [hb] at hm <;> simp [zAf,zD3,chC,elC,hm]
theorem zow (op:Int) (x:El) (vk vn:Int) (vt:List UInt8) (hx:ElFit x) (ht:vt.length≤1048576) (H:GH) :
    ecall T zuX [.agg (chC op x vk vn vt)] H=some (.bool (zl8 op x vk vn vt),H):=by
  have he:=fun H=>zuB x.k x.a x.b x.c x.d (by have:=hx.a; omega) (by have:=hx.b; omega) (by have:=hx.c; omega) (by have:=hx.d; omega) H
  have hr:=fun H=>zt5 vk vn (mkB vt) (by rw [zgc]; omega) H
  simp only [zbn] at hr
  have hn:=zhu vk vn vt
  apply optW.eq
  rw [zad zDk rfl (by simp [zhx]),zab]
  unfold zl8
  cases hel:zbr x.k x.a x.b x.c x.d with
  | false =>
    rw [hel] at he
    simp [zhx,zkL,chC,elC,he]
  | true =>
    obtain ⟨k1,k2⟩:=znG hel
    rw [hel] at he
    rw [← k2]
    cases hv:zl7 vk vn vt
    all_goals rw [hv] at hn
    all_goals
      by_cases kp:4≤x.k
      all_goals
        by_cases o1:op=1
        · simp [zhx,zkL,chC,elC,he,hn,zaS,kp,o1]
        by_cases o2:op=2
        · simp [zhx,zkL,chC,elC,he,hn,zaS,kp,o2]
        by_cases o3:op=3
        · by_cases a1:1≤vk
          · by_cases a2:vk≤3 <;> simp [zhx,zkL,chC,elC,he,hn,hr,zaS,kp,o3,a1,a2]
          · simp [zhx,zkL,chC,elC,he,hn,hr,zaS,kp,o3,a1]
        by_cases o4:op=4
        · simp [zhx,zkL,chC,elC,he,hn,zaS,kp,o4]
        simp [zhx,zkL,chC,elC,he,hn,zaS,kp,o1,o2,o3,o4]
structure Evt where
  r:Int
  c:Int
  past:List Int
  op:Int
  x:El
  vk:Int
  vn:Int
  vt:List UInt8
def zue (e:Evt):List GV:=.int .i64 e.op::(elC e.x++[.int .i64 e.vk,.int .i64 e.vn,.str (mkB e.vt)])
def evC (e:Evt):List GV:=.int .i64 e.r::.int .i64 e.c::((e.past.map fun n=>GV.int .i64 n)++zue e)
structure EvFit (e:Evt):Prop where
  past:e.past.length=16
  x:ElFit e.x
  t:e.vt.length≤1048576
  n1 : -9223372036854775808≤e.vn
  n2:e.vn≤9223372036854775807
section
variable {e:Evt} (hp:e.past.length=16)
include hp
theorem zcN:(evC e).length=27:=by simp [evC,zue,elC,hp]
theorem zgm:List.take 16 (List.drop 2 (evC e))=e.past.map fun n=>GV.int .i64 n:=by
  have:List.drop 2 (evC e)=(e.past.map fun n=>GV.int .i64 n)++zue e:=rfl
  rw [this,List.take_left' (by simp [hp])]
theorem zuG (k:Nat):List.drop (18+k) (evC e)=(zue e).drop k:=by
  have:List.drop (18+k) (evC e)=List.drop (16+k) ((e.past.map fun n=>GV.int .i64 n)++zue e):=by
    rw [show 18+k=(16+k)+2 by omega]; rfl
  rw [this,← List.drop_drop,List.drop_left' (by simp [hp])]
theorem zox:(evC e)[18]?=some (.int .i64 e.op):=by
  have:=congrArg (·[0]?) (zuG hp 0)
  simpa [zue] using this
theorem zkE:∀ h:18<(evC e).length,(evC e)[18]'h=.int .i64 e.op:=fun h=>by
  have:=zox hp
  rw [List.getElem?_eq_getElem h] at this
  exact Option.some.inj this
theorem zl9:List.take 5 (List.drop 19 (evC e))=elC e.x:=by
  rw [show 19=18+1 from rfl,zuG hp 1]; rfl
theorem znH:List.take 3 (List.drop 24 (evC e))=[.int .i64 e.vk,.int .i64 e.vn,.str (mkB e.vt)]:=by
  rw [show 24=18+6 from rfl,zuG hp 6]; rfl
theorem zgP:(evC e).all GV.one=true:=by
  simp [evC,zue,elC]
end
theorem zkF (e:Evt):List.take 2 (evC e)=[.int .i64 e.r,.int .i64 e.c]:=rfl
def evB (e:Evt):Bool:=(zkz e.past e.r e.c&&zwT e.past)&&zl8 e.op e.x e.vk e.vn e.vt
theorem zuH (e:Evt) (h:EvFit e) (H:GH):ecall T zBX [.agg (evC e)] H=some (.agg (chC e.op e.x e.vk e.vn e.vt),H):=by
  have l1:=zcN h.past
  have l2:=zox h.past
  have l2':=zkE h.past
  have l3:=zl9 h.past
  have l4:=znH h.past
  apply optW.eq
  rw [zad zEs rfl (by simp [zAg]),zab]
  simp only [elC] at l3
  simp [zAg,zD4,l1,l2,l2',l3,l4,zaS,zaf,chC,elC]
theorem zma (e:Evt) (h:EvFit e) (H:GH):ecall T zBV [.agg (evC e)] H=some (.int .i64 (if evB e then 0 else 1),H):=by
  have l1:=zcN h.past
  have l2:=zgm h.past
  have l3:=zkF e
  have l4:List.take 27 (evC e)=evC e:=List.take_of_length_le (by rw [l1]; exact Nat.le_refl _)
  have hn:=fun H=>zl6 e.past h.past e.r e.c H
  have hv:=fun H=>zkB e.past h.past H
  have ho:=fun H=>zuH e h H
  have hc:=fun H=>zkD e.op e.x e.vk e.vn e.vt h.x h.n1 h.n2 H
  simp only [zot] at hn hv
  apply optW.eq
  rw [zad zEq rfl (by simp [zxp]),zab]
  unfold evB
  cases h1:zkz e.past e.r e.c with
  | false =>
    rw [h1] at hn
    simp [zxp,zBZ,l1,l2,l3,hn]
  | true =>
    rw [h1] at hn
    cases h2:zwT e.past with
    | false =>
      rw [h2] at hv
      simp [zxp,zBZ,l1,l2,l3,hn,hv]
    | true =>
      rw [h2] at hv
      simp [zxp,zBZ,l1,l2,l3,l4,hn,hv,ho,hc]
end Go.Proofs.YtchjbidfmhmmhaaGreatDoor
