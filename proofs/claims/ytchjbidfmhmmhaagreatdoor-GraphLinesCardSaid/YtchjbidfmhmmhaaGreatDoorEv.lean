/- Own work: the zaO machine and what it shows, part Ev. -/
import Derived.Test.YtchjbidfmhmmhaaGreatDoorEl
set_option linter.all false
namespace Go.Proofs.YtchjbidfmhmmhaaGreatDoor
open Go.Sh
set_option maxRecDepth 100000
def znv (k n:Int) (t:List UInt8):Bool:=decide (k=0∧n=0∧t=[])
def znm (op:Int) (x:El) (vk vn:Int) (vt:List UInt8):Bool :=
 zbu x.k x.a x.b x.c x.d&&(if op=1∨op=2 then znv vk vn vt&&decide (x.k<4) else if op=3 then decide (4≤x.k)&&(decide (1≤vk∧vk≤3)&&zdS vk vn vt) else if op=4 then znv vk vn vt&&decide (4≤x.k) else false)
structure ElFit (x:El):Prop where
 a:x.a.length≤1048576
 b:x.b.length≤1048576
 c:x.c.length≤1048576
 d:x.d.length≤1048576
def chC (op:Int) (x:El) (vk vn:Int) (vt:List UInt8):List GV:=.int .i64 op::(elC x++[.int .i64 vk,.int .i64 vn,.str (mkB vt)])
theorem zh9 (k n:Int) (t:List UInt8):zaH [.int .i64,.int .i64,.str] [.int .i64 k,.int .i64 n,.str (mkB t)] [.int .i64 0,.int .i64 0,.str ⟨#[]⟩]=some (znv k n t):=by
 have:znv k n t=(decide (k=0)&&(decide (n=0)&&(decide (t=[])&&true))):=by
  rw [Bool.eq_iff_iff]; simp [znv]
 rw [this]
 by_cases h1:k=0 <;> by_cases h2:n=0 <;> by_cases h3:t=[] <;> simp [zaH,h1,h2,h3]
theorem zpZ (x:El) (H:GH):ecall T zBd [.agg (elC x)] H=some (.bool (decide (x.k=4∨x.k=5)),H):=by
 apply optW.eq
 rw [zag zGX rfl (by simp [zBe]),zab]
 by_cases h:x.k=4
 ·simp [zBe,zEV,elC,h]
 ·simp [zBe,zEV,elC,h]
theorem zlN (k n:Int) (t:List UInt8) (h1 : -9223372036854775808≤n) (h2:n≤9223372036854775807) (H:GH) :
 ecall T zxh [.agg [.int .i64 k,.int .i64 n,.str (mkB t)]] H=some (.bool (decide (1≤k∧k≤3)&&zdS k n t),H):=by
 have hr:=fun (q1:1≤k) (q2:k≤3) H=>zjc k n (mkB t) (.inl ⟨q1,q2⟩) h1 h2 H
 simp only [zbn] at hr
 apply optW.eq
 rw [zag zF0 rfl (by simp [znS]),zab]
 by_cases a1:1≤k
 ·by_cases a2:k≤3
  ·have hr':=hr a1 a2
   simp [znS,zxp,a1,a2,hr']
  ·simp [znS,zxp,a1,a2]
 ·simp [znS,zxp,a1]
theorem zo5 {x:El} (h:zbu x.k x.a x.b x.c x.d=true):decide (x.k=4∨x.k=5)=decide (4≤x.k)∧(!decide (4≤x.k))=decide (x.k<4):=by
 rcases zjd h with h | h | h | h | h <;> rw [h] <;> decide
theorem zsj (op:Int) (x:El) (vk vn:Int) (vt:List UInt8) (hx:ElFit x) (h1 : -9223372036854775808≤vn) (h2:vn≤9223372036854775807) (H:GH) :
 ecall T zEk [.agg (chC op x vk vn vt)] H=some (.bool (znm op x vk vn vt),H):=by
 have he:=fun H=>zpW x.k x.a x.b x.c x.d (by have:=hx.a; omega) (by have:=hx.b; omega) (by have:=hx.c; omega) (by have:=hx.d; omega) H
 have hk:=fun H=>zpZ x H
 have hs:=fun H=>zlN vk vn vt h1 h2 H
 have hn:=zh9 vk vn vt
 simp only [elC] at hk
 apply optW.eq
 rw [zag zGW rfl (by simp [zwt]),zab]
 unfold znm
 cases hel:zbu x.k x.a x.b x.c x.d with
 | false =>
  rw [hel] at he
  simp [zwt,zzY,chC,elC,he]
 | true =>
  obtain ⟨k1,k2⟩:=zo5 hel
  rw [hel] at he
  rw [k1] at hk
  rw [← k2]
  generalize decide (4≤x.k)=kp at hk ⊢
  cases hv:znv vk vn vt
  all_goals rw [hv] at hn
  all_goals
   by_cases o1:op=1
   ·cases kp <;> simp [zwt,zzY,chC,elC,he,hk,hn,zaK,o1]
   by_cases o2:op=2
   ·cases kp <;> simp [zwt,zzY,chC,elC,he,hk,hn,zaK,o2]
   by_cases o3:op=3
   ·cases kp <;> simp [zwt,zzY,chC,elC,he,hk,hn,hs,zaK,o3]
   by_cases o4:op=4
   ·cases kp <;> simp [zwt,zzY,chC,elC,he,hk,hn,zaK,o4]
   simp [zwt,zzY,chC,elC,he,hk,hn,zaK,o1,o2,o3,o4]
theorem zlO (op:Int) (x:El) (vk vn:Int) (vt:List UInt8) (hx:ElFit x) (h1 : -9223372036854775808≤vn) (h2:vn≤9223372036854775807) (H:GH) :
 ecall T zEi [.agg (chC op x vk vn vt)] H=some (.int .i64 (if znm op x vk vn vt then 0 else 1),H):=by
 have hm:=fun H=>zsj op x vk vn vt hx h1 h2 H
 simp only [chC,elC,List.cons_append,List.nil_append] at hm
 apply optW.eq
 rw [zag zGU rfl (by simp [zCu]),zab]
 cases hb:znm op x vk vn vt <;> rw [hb] at hm <;> simp [zCu,zGv,chC,elC,hm]
theorem zp0 (op:Int) (x:El) (vk vn:Int) (vt:List UInt8) (hx:ElFit x) (ht:vt.length≤1048576) (H:GH) :
 ecall T zw5 [.agg (chC op x vk vn vt)] H=some (.bool (znm op x vk vn vt),H):=by
 have he:=fun H=>zwO x.k x.a x.b x.c x.d (by have:=hx.a; omega) (by have:=hx.b; omega) (by have:=hx.c; omega) (by have:=hx.d; omega) H
 have hr:=fun H=>znf vk vn (mkB vt) (by rw [zee]; omega) H
 simp only [zbn] at hr
 have hn:=zh9 vk vn vt
 apply optW.eq
 rw [zag zFE rfl (by simp [zic]),zab]
 unfold znm
 cases hel:zbu x.k x.a x.b x.c x.d with
 | false =>
  rw [hel] at he
  simp [zic,zlZ,chC,elC,he]
 | true =>
  obtain ⟨k1,k2⟩:=zo5 hel
  rw [hel] at he
  rw [← k2]
  cases hv:znv vk vn vt
  all_goals rw [hv] at hn
  all_goals
   by_cases kp:4≤x.k
   all_goals
    by_cases o1:op=1
    ·simp [zic,zlZ,chC,elC,he,hn,zaK,kp,o1]
    by_cases o2:op=2
    ·simp [zic,zlZ,chC,elC,he,hn,zaK,kp,o2]
    by_cases o3:op=3
    ·by_cases a1:1≤vk
     ·by_cases a2:vk≤3 <;> simp [zic,zlZ,chC,elC,he,hn,hr,zaK,kp,o3,a1,a2]
     ·simp [zic,zlZ,chC,elC,he,hn,hr,zaK,kp,o3,a1]
    by_cases o4:op=4
    ·simp [zic,zlZ,chC,elC,he,hn,zaK,kp,o4]
    simp [zic,zlZ,chC,elC,he,hn,zaK,kp,o1,o2,o3,o4]
structure Evt where
 r:Int
 c:Int
 past:List Int
 op:Int
 x:El
 vk:Int
 vn:Int
 vt:List UInt8
def zws (e:Evt):List GV:=.int .i64 e.op::(elC e.x++[.int .i64 e.vk,.int .i64 e.vn,.str (mkB e.vt)])
def evC (e:Evt):List GV:=.int .i64 e.r::.int .i64 e.c::((e.past.map fun n=>GV.int .i64 n)++zws e)
structure EvFit (e:Evt):Prop where
 past:e.past.length=16
 x:ElFit e.x
 t:e.vt.length≤1048576
 n1 : -9223372036854775808≤e.vn
 n2:e.vn≤9223372036854775807
section
variable {e:Evt} (hp:e.past.length=16)
include hp
theorem zc8:(evC e).length=27:=by simp [evC,zws,elC,hp]
theorem zgX:List.take 16 (List.drop 2 (evC e))=e.past.map fun n=>GV.int .i64 n:=by
 have:List.drop 2 (evC e)=(e.past.map fun n=>GV.int .i64 n)++zws e:=rfl
 rw [this,List.take_left' (by simp [hp])]
theorem zwT (k:Nat):List.drop (18+k) (evC e)=(zws e).drop k:=by
 have:List.drop (18+k) (evC e)=List.drop (16+k) ((e.past.map fun n=>GV.int .i64 n)++zws e):=by
  rw [show 18+k=(16+k)+2 by omega]; rfl
 rw [this,← List.drop_drop,List.drop_left' (by simp [hp])]
theorem zp1:(evC e)[18]?=some (.int .i64 e.op):=by
 have:=congrArg (·[0]?) (zwT hp 0)
 simpa [zws] using this
theorem zlP:∀ h:18<(evC e).length,(evC e)[18]'h=.int .i64 e.op:=fun h=>by
 have:=zp1 hp
 rw [List.getElem?_eq_getElem h] at this
 exact Option.some.inj this
theorem znw:List.take 5 (List.drop 19 (evC e))=elC e.x:=by
 rw [show 19=18+1 from rfl,zwT hp 1]; rfl
theorem zo6:List.take 3 (List.drop 24 (evC e))=[.int .i64 e.vk,.int .i64 e.vn,.str (mkB e.vt)]:=by
 rw [show 24=18+6 from rfl,zwT hp 6]; rfl
theorem zht:(evC e).all GV.one=true:=by
 simp [evC,zws,elC]
end
theorem zlQ (e:Evt):List.take 2 (evC e)=[.int .i64 e.r,.int .i64 e.c]:=rfl
def evB (e:Evt):Bool:=(zlK e.past e.r e.c&&zza e.past)&&znm e.op e.x e.vk e.vn e.vt
theorem zwU (e:Evt) (h:EvFit e) (H:GH):ecall T zEj [.agg (evC e)] H=some (.agg (chC e.op e.x e.vk e.vn e.vt),H):=by
 have l1:=zc8 h.past
 have l2:=zp1 h.past
 have l2':=zlP h.past
 have l3:=znw h.past
 have l4:=zo6 h.past
 apply optW.eq
 rw [zag zGV rfl (by simp [zCv]),zab]
 simp only [elC] at l3
 simp [zCv,zGw,l1,l2,l2',l3,l4,zaK,zae,chC,elC]
theorem znx (e:Evt) (h:EvFit e) (H:GH):ecall T zEh [.agg (evC e)] H=some (.int .i64 (if evB e then 0 else 1),H):=by
 have l1:=zc8 h.past
 have l2:=zgX h.past
 have l3:=zlQ e
 have l4:List.take 27 (evC e)=evC e:=List.take_of_length_le (by rw [l1]; exact Nat.le_refl _)
 have hn:=fun H=>znu e.past h.past e.r e.c H
 have hv:=fun H=>zlM e.past h.past H
 have ho:=fun H=>zwU e h H
 have hc:=fun H=>zlO e.op e.x e.vk e.vn e.vt h.x h.n1 h.n2 H
 simp only [zpX] at hn hv
 apply optW.eq
 rw [zag zGT rfl (by simp [zzP]),zab]
 unfold evB
 cases h1:zlK e.past e.r e.c with
 | false =>
  rw [h1] at hn
  simp [zzP,zEl,l1,l2,l3,hn]
 | true =>
  rw [h1] at hn
  cases h2:zza e.past with
  | false =>
   rw [h2] at hv
   simp [zzP,zEl,l1,l2,l3,hn,hv]
  | true =>
   rw [h2] at hv
   simp [zzP,zEl,l1,l2,l3,l4,hn,hv,ho,hc]
end Go.Proofs.YtchjbidfmhmmhaaGreatDoor
