/- Own work: the zaM machine and what it shows, part Ev. -/
import Derived.Test.YtchjbidfmhmmhaaGreatDoorEl
set_option linter.all false
namespace Go.Proofs.YtchjbidfmhmmhaaGreatDoor
open Go.Sh
set_option maxRecDepth 100000
def znH (k n:Int) (t:List UInt8):Bool:=decide (k=0∧n=0∧t=[])
def znw (op:Int) (x:El) (vk vn:Int) (vt:List UInt8):Bool :=
 zby x.k x.a x.b x.c x.d&&(if op=1∨op=2 then znH vk vn vt&&decide (x.k<4) else if op=3 then decide (4≤x.k)&&(decide (1≤vk∧vk≤3)&&zbN vk vn vt) else if op=4 then znH vk vn vt&&decide (4≤x.k) else false)
structure ElFit (x:El):Prop where
 a:x.a.length≤1048576
 b:x.b.length≤1048576
 c:x.c.length≤1048576
 d:x.d.length≤1048576
def chC (op:Int) (x:El) (vk vn:Int) (vt:List UInt8):List GV:=.int .i64 op::(elC x++[.int .i64 vk,.int .i64 vn,.str (mkB vt)])
theorem zig (k n:Int) (t:List UInt8):zaC [.int .i64,.int .i64,.str] [.int .i64 k,.int .i64 n,.str (mkB t)] [.int .i64 0,.int .i64 0,.str ⟨#[]⟩]=some (znH k n t):=by
 have:znH k n t=(decide (k=0)&&(decide (n=0)&&(decide (t=[])&&true))):=by
  rw [Bool.eq_iff_iff]; simp [znH]
 rw [this]
 by_cases h1:k=0 <;> by_cases h2:n=0 <;> by_cases h3:t=[] <;> simp [zaC,h1,h2,h3]
theorem zqA (x:El) (H:GH):ecall T zqP [.agg (elC x)] H=some (.bool (decide (x.k=4∨x.k=5)),H):=by
 apply optW.eq
 rw [zae zHu rfl (by simp [zq1]),zab]
 by_cases h:x.k=4
 ·simp [zq1,zAS,elC,h]
 ·simp [zq1,zAS,elC,h]
theorem zlP (k n:Int) (t:List UInt8) (h1 : -9223372036854775808≤n) (h2:n≤9223372036854775807) (H:GH) :
 ecall T zx6 [.agg [.int .i64 k,.int .i64 n,.str (mkB t)]] H=some (.bool (decide (1≤k∧k≤3)&&zbN k n t),H):=by
 have hr:=fun (q1:1≤k) (q2:k≤3) H=>zjj k n (mkB t) (.inl ⟨q1,q2⟩) h1 h2 H
 simp only [zbC] at hr
 apply optW.eq
 rw [zae zHv rfl (by simp [zn8]),zab]
 by_cases a1:1≤k
 ·by_cases a2:k≤3
  ·have hr':=hr a1 a2
   simp [zn8,zyf,a1,a2,hr']
  ·simp [zn8,zyf,a1,a2]
 ·simp [zn8,zyf,a1]
theorem zpr {x:El} (h:zby x.k x.a x.b x.c x.d=true):decide (x.k=4∨x.k=5)=decide (4≤x.k)∧(!decide (4≤x.k))=decide (x.k<4):=by
 rcases zjk h with h | h | h | h | h <;> rw [h] <;> decide
theorem zsV (op:Int) (x:El) (vk vn:Int) (vt:List UInt8) (hx:ElFit x) (h1 : -9223372036854775808≤vn) (h2:vn≤9223372036854775807) (H:GH) :
 ecall T zx2 [.agg (chC op x vk vn vt)] H=some (.bool (znw op x vk vn vt),H):=by
 have he:=fun H=>zqx x.k x.a x.b x.c x.d (by have:=hx.a; omega) (by have:=hx.b; omega) (by have:=hx.c; omega) (by have:=hx.d; omega) H
 have hk:=fun H=>zqA x H
 have hs:=fun H=>zlP vk vn vt h1 h2 H
 have hn:=zig vk vn vt
 simp only [elC] at hk
 apply optW.eq
 rw [zae zHn rfl (by simp [zjA]),zab]
 unfold znw
 cases hel:zby x.k x.a x.b x.c x.d with
 | false =>
  rw [hel] at he
  simp [zjA,zn4,chC,elC,he]
 | true =>
  obtain ⟨k1,k2⟩:=zpr hel
  rw [hel] at he
  rw [k1] at hk
  rw [← k2]
  generalize decide (4≤x.k)=kp at hk ⊢
  cases hv:znH vk vn vt
  all_goals rw [hv] at hn
  all_goals
   by_cases o1:op=1
   ·cases kp <;> simp [zjA,zn4,chC,elC,he,hk,hn,zaf,o1]
   by_cases o2:op=2
   ·cases kp <;> simp [zjA,zn4,chC,elC,he,hk,hn,zaf,o2]
   by_cases o3:op=3
   ·cases kp <;> simp [zjA,zn4,chC,elC,he,hk,hn,hs,zaf,o3]
   by_cases o4:op=4
   ·cases kp <;> simp [zjA,zn4,chC,elC,he,hk,hn,zaf,o4]
   simp [zjA,zn4,chC,elC,he,hk,hn,zaf,o1,o2,o3,o4]
theorem zlQ (op:Int) (x:El) (vk vn:Int) (vt:List UInt8) (hx:ElFit x) (h1 : -9223372036854775808≤vn) (h2:vn≤9223372036854775807) (H:GH) :
 ecall T zxR [.agg (chC op x vk vn vt)] H=some (.int .i64 (if znw op x vk vn vt then 0 else 1),H):=by
 have hm:=fun H=>zsV op x vk vn vt hx h1 h2 H
 simp only [chC,elC,List.cons_append,List.nil_append] at hm
 apply optW.eq
 rw [zae zG9 rfl (by simp [zt0]),zab]
 cases hb:znw op x vk vn vt <;> rw [hb] at hm <;> simp [zt0,zDC,chC,elC,hm]
theorem zqB (op:Int) (x:El) (vk vn:Int) (vt:List UInt8) (hx:ElFit x) (ht:vt.length≤1048576) (H:GH) :
 ecall T zxQ [.agg (chC op x vk vn vt)] H=some (.bool (znw op x vk vn vt),H):=by
 have he:=fun H=>zxq x.k x.a x.b x.c x.d (by have:=hx.a; omega) (by have:=hx.b; omega) (by have:=hx.c; omega) (by have:=hx.d; omega) H
 have hr:=fun H=>znj vk vn (mkB vt) (by rw [zfo]; omega) H
 simp only [zbC] at hr
 have hn:=zig vk vn vt
 apply optW.eq
 rw [zae zG8 rfl (by simp [zim]),zab]
 unfold znw
 cases hel:zby x.k x.a x.b x.c x.d with
 | false =>
  rw [hel] at he
  simp [zim,zl6,chC,elC,he]
 | true =>
  obtain ⟨k1,k2⟩:=zpr hel
  rw [hel] at he
  rw [← k2]
  cases hv:znH vk vn vt
  all_goals rw [hv] at hn
  all_goals
   by_cases kp:4≤x.k
   all_goals
    by_cases o1:op=1
    ·simp [zim,zl6,chC,elC,he,hn,zaf,kp,o1]
    by_cases o2:op=2
    ·simp [zim,zl6,chC,elC,he,hn,zaf,kp,o2]
    by_cases o3:op=3
    ·by_cases a1:1≤vk
     ·by_cases a2:vk≤3 <;> simp [zim,zl6,chC,elC,he,hn,hr,zaf,kp,o3,a1,a2]
     ·simp [zim,zl6,chC,elC,he,hn,hr,zaf,kp,o3,a1]
    by_cases o4:op=4
    ·simp [zim,zl6,chC,elC,he,hn,zaf,kp,o4]
    simp [zim,zl6,chC,elC,he,hn,zaf,kp,o1,o2,o3,o4]
structure Evt where
 r:Int
 c:Int
 past:List Int
 op:Int
 x:El
 vk:Int
 vn:Int
 vt:List UInt8
def zw2 (e:Evt):List GV:=.int .i64 e.op::(elC e.x++[.int .i64 e.vk,.int .i64 e.vn,.str (mkB e.vt)])
def evC (e:Evt):List GV:=.int .i64 e.r::.int .i64 e.c::((e.past.map fun n=>GV.int .i64 n)++zw2 e)
structure EvFit (e:Evt):Prop where
 past:e.past.length=16
 x:ElFit e.x
 t:e.vt.length≤1048576
 n1 : -9223372036854775808≤e.vn
 n2:e.vn≤9223372036854775807
section
variable {e:Evt} (hp:e.past.length=16)
include hp
theorem zdv:(evC e).length=27:=by simp [evC,zw2,elC,hp]
theorem zhc:List.take 16 (List.drop 2 (evC e))=e.past.map fun n=>GV.int .i64 n:=by
 have:List.drop 2 (evC e)=(e.past.map fun n=>GV.int .i64 n)++zw2 e:=rfl
 rw [this,List.take_left' (by simp [hp])]
theorem zxu (k:Nat):List.drop (18+k) (evC e)=(zw2 e).drop k:=by
 have:List.drop (18+k) (evC e)=List.drop (16+k) ((e.past.map fun n=>GV.int .i64 n)++zw2 e):=by
  rw [show 18+k=(16+k)+2 by omega]; rfl
 rw [this,← List.drop_drop,List.drop_left' (by simp [hp])]
theorem zqC:(evC e)[18]?=some (.int .i64 e.op):=by
 have:=congrArg (·[0]?) (zxu hp 0)
 simpa [zw2] using this
theorem zlR:∀ h:18<(evC e).length,(evC e)[18]'h=.int .i64 e.op:=fun h=>by
 have:=zqC hp
 rw [List.getElem?_eq_getElem h] at this
 exact Option.some.inj this
theorem zsW:List.take 5 (List.drop 19 (evC e))=elC e.x:=by
 rw [show 19=18+1 from rfl,zxu hp 1]; rfl
theorem zps:List.take 3 (List.drop 24 (evC e))=[.int .i64 e.vk,.int .i64 e.vn,.str (mkB e.vt)]:=by
 rw [show 24=18+6 from rfl,zxu hp 6]; rfl
theorem zih:(evC e).all GV.one=true:=by
 simp [evC,zw2,elC]
end
theorem zlS (e:Evt):List.take 2 (evC e)=[.int .i64 e.r,.int .i64 e.c]:=rfl
def evB (e:Evt):Bool:=(zlM e.past e.r e.c&&zz0 e.past)&&znw e.op e.x e.vk e.vn e.vt
theorem zxv (e:Evt) (h:EvFit e) (H:GH):ecall T zxS [.agg (evC e)] H=some (.agg (chC e.op e.x e.vk e.vn e.vt),H):=by
 have l1:=zdv h.past
 have l2:=zqC h.past
 have l2':=zlR h.past
 have l3:=zsW h.past
 have l4:=zps h.past
 apply optW.eq
 rw [zae zHa rfl (by simp [zt1]),zab]
 simp only [elC] at l3
 simp [zt1,zDD,l1,l2,l2',l3,l4,zaf,zaa,chC,elC]
theorem znI (e:Evt) (h:EvFit e) (H:GH):ecall T zxD [.agg (evC e)] H=some (.int .i64 (if evB e then 0 else 1),H):=by
 have l1:=zdv h.past
 have l2:=zhc h.past
 have l3:=zlS e
 have l4:List.take 27 (evC e)=evC e:=List.take_of_length_le (by rw [l1]; exact Nat.le_refl _)
 have hn:=fun H=>znG e.past h.past e.r e.c H
 have hv:=fun H=>zlO e.past h.past H
 have ho:=fun H=>zxv e h H
 have hc:=fun H=>zlQ e.op e.x e.vk e.vn e.vt h.x h.n1 h.n2 H
 simp only [zqy] at hn hv
 apply optW.eq
 rw [zae zGI rfl (by simp [znW]),zab]
 unfold evB
 cases h1:zlM e.past e.r e.c with
 | false =>
  rw [h1] at hn
  simp [znW,zyb,l1,l2,l3,hn]
 | true =>
  rw [h1] at hn
  cases h2:zz0 e.past with
  | false =>
   rw [h2] at hv
   simp [znW,zyb,l1,l2,l3,hn,hv]
  | true =>
   rw [h2] at hv
   simp [znW,zyb,l1,l2,l3,l4,hn,hv,ho,hc]
end Go.Proofs.YtchjbidfmhmmhaaGreatDoor
