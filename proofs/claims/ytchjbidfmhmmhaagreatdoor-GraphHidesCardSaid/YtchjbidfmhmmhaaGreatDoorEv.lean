/- Own work: the zaG machine and what it shows, part Ev. -/
import Derived.Test.YtchjbidfmhmmhaaGreatDoorEl
set_option linter.all false
namespace Go.Proofs.YtchjbidfmhmmhaaGreatDoor
open Go.Sh
set_option maxRecDepth 100000
def zjI (k n:Int) (t:List UInt8):Bool:=decide (k=0∧n=0∧t=[])
def zky (op:Int) (x:El) (vk vn:Int) (vt:List UInt8):Bool :=
 zbl x.k x.a x.b x.c x.d&&(if op=1∨op=2 then zjI vk vn vt&&decide (x.k<4) else if op=3 then decide (4≤x.k)&&(decide (1≤vk∧vk≤3)&&zdV vk vn vt) else if op=4 then zjI vk vn vt&&decide (4≤x.k) else false)
structure ElFit (x:El):Prop where
 a:x.a.length≤1048576
 b:x.b.length≤1048576
 c:x.c.length≤1048576
 d:x.d.length≤1048576
def chC (op:Int) (x:El) (vk vn:Int) (vt:List UInt8):List GV:=.int .i64 op::(elC x++[.int .i64 vk,.int .i64 vn,.str (mkB vt)])
theorem zhs (k n:Int) (t:List UInt8):zaT [.int .i64,.int .i64,.str] [.int .i64 k,.int .i64 n,.str (mkB t)] [.int .i64 0,.int .i64 0,.str ⟨#[]⟩]=some (zjI k n t):=by
 have:zjI k n t=(decide (k=0)&&(decide (n=0)&&(decide (t=[])&&true))):=by
  rw [Bool.eq_iff_iff]; simp [zjI]
 rw [this]
 by_cases h1:k=0 <;> by_cases h2:n=0 <;> by_cases h3:t=[] <;> simp [zaT,h1,h2,h3]
theorem zoC (x:El) (H:GH):ecall T zyY [.agg (elC x)] H=some (.bool (decide (x.k=4∨x.k=5)),H):=by
 apply optW.eq
 rw [zad zEg rfl (by simp [zyZ]),zab]
 by_cases h:x.k=4
 ·simp [zyZ,zCp,elC,h]
 ·simp [zyZ,zCp,elC,h]
theorem zkH (k n:Int) (t:List UInt8) (h1 : -9223372036854775808≤n) (h2:n≤9223372036854775807) (H:GH) :
 ecall T zvc [.agg [.int .i64 k,.int .i64 n,.str (mkB t)]] H=some (.bool (decide (1≤k∧k≤3)&&zdV k n t),H):=by
 have hr:=fun (q1:1≤k) (q2:k≤3) H=>ziu k n (mkB t) (.inl ⟨q1,q2⟩) h1 h2 H
 simp only [zbE] at hr
 apply optW.eq
 rw [zad zDg rfl (by simp [zmt]),zab]
 by_cases a1:1≤k
 ·by_cases a2:k≤3
  ·have hr':=hr a1 a2
   simp [zmt,zvj,a1,a2,hr']
  ·simp [zmt,zvj,a1,a2]
 ·simp [zmt,zvj,a1]
theorem znI {x:El} (h:zbl x.k x.a x.b x.c x.d=true):decide (x.k=4∨x.k=5)=decide (4≤x.k)∧(!decide (4≤x.k))=decide (x.k<4):=by
 rcases ziw h with h | h | h | h | h <;> rw [h] <;> decide
theorem zqM (op:Int) (x:El) (vk vn:Int) (vt:List UInt8) (hx:ElFit x) (h1 : -9223372036854775808≤vn) (h2:vn≤9223372036854775807) (H:GH) :
 ecall T zBQ [.agg (chC op x vk vn vt)] H=some (.bool (zky op x vk vn vt),H):=by
 have he:=fun H=>zoz x.k x.a x.b x.c x.d (by have:=hx.a; omega) (by have:=hx.b; omega) (by have:=hx.c; omega) (by have:=hx.d; omega) H
 have hk:=fun H=>zoC x H
 have hs:=fun H=>zkH vk vn vt h1 h2 H
 have hn:=zhs vk vn vt
 simp only [elC] at hk
 apply optW.eq
 rw [zad zEf rfl (by simp [zuj]),zab]
 unfold zky
 cases hel:zbl x.k x.a x.b x.c x.d with
 | false =>
  rw [hel] at he
  simp [zuj,zxK,chC,elC,he]
 | true =>
  obtain ⟨k1,k2⟩:=znI hel
  rw [hel] at he
  rw [k1] at hk
  rw [← k2]
  generalize decide (4≤x.k)=kp at hk ⊢
  cases hv:zjI vk vn vt
  all_goals rw [hv] at hn
  all_goals
   by_cases o1:op=1
   ·cases kp <;> simp [zuj,zxK,chC,elC,he,hk,hn,za6,o1]
   by_cases o2:op=2
   ·cases kp <;> simp [zuj,zxK,chC,elC,he,hk,hn,za6,o2]
   by_cases o3:op=3
   ·cases kp <;> simp [zuj,zxK,chC,elC,he,hk,hn,hs,za6,o3]
   by_cases o4:op=4
   ·cases kp <;> simp [zuj,zxK,chC,elC,he,hk,hn,za6,o4]
   simp [zuj,zxK,chC,elC,he,hk,hn,za6,o1,o2,o3,o4]
theorem zkI (op:Int) (x:El) (vk vn:Int) (vt:List UInt8) (hx:ElFit x) (h1 : -9223372036854775808≤vn) (h2:vn≤9223372036854775807) (H:GH) :
 ecall T zBO [.agg (chC op x vk vn vt)] H=some (.int .i64 (if zky op x vk vn vt then 0 else 1),H):=by
 have hm:=fun H=>zqM op x vk vn vt hx h1 h2 H
 simp only [chC,elC,List.cons_append,List.nil_append] at hm
 apply optW.eq
 rw [zad zEd rfl (by simp [zz6]),zab]
 cases hb:zky op x vk vn vt <;> rw [hb] at hm <;> simp [zz6,zDO,chC,elC,hm]
theorem zoD (op:Int) (x:El) (vk vn:Int) (vt:List UInt8) (hx:ElFit x) (ht:vt.length≤1048576) (H:GH) :
 ecall T zu0 [.agg (chC op x vk vn vt)] H=some (.bool (zky op x vk vn vt),H):=by
 have he:=fun H=>zuG x.k x.a x.b x.c x.d (by have:=hx.a; omega) (by have:=hx.b; omega) (by have:=hx.c; omega) (by have:=hx.d; omega) H
 have hr:=fun H=>zua vk vn (mkB vt) (by rw [zho]; omega) H
 simp only [zbE] at hr
 have hn:=zhs vk vn vt
 apply optW.eq
 rw [zad zCV rfl (by simp [zhv]),zab]
 unfold zky
 cases hel:zbl x.k x.a x.b x.c x.d with
 | false =>
  rw [hel] at he
  simp [zhv,zkN,chC,elC,he]
 | true =>
  obtain ⟨k1,k2⟩:=znI hel
  rw [hel] at he
  rw [← k2]
  cases hv:zjI vk vn vt
  all_goals rw [hv] at hn
  all_goals
   by_cases kp:4≤x.k
   all_goals
    by_cases o1:op=1
    ·simp [zhv,zkN,chC,elC,he,hn,za6,kp,o1]
    by_cases o2:op=2
    ·simp [zhv,zkN,chC,elC,he,hn,za6,kp,o2]
    by_cases o3:op=3
    ·by_cases a1:1≤vk
     ·by_cases a2:vk≤3 <;> simp [zhv,zkN,chC,elC,he,hn,hr,za6,kp,o3,a1,a2]
     ·simp [zhv,zkN,chC,elC,he,hn,hr,za6,kp,o3,a1]
    by_cases o4:op=4
    ·simp [zhv,zkN,chC,elC,he,hn,za6,kp,o4]
    simp [zhv,zkN,chC,elC,he,hn,za6,kp,o1,o2,o3,o4]
structure Evt where
 r:Int
 c:Int
 past:List Int
 op:Int
 x:El
 vk:Int
 vn:Int
 vt:List UInt8
def zui (e:Evt):List GV:=.int .i64 e.op::(elC e.x++[.int .i64 e.vk,.int .i64 e.vn,.str (mkB e.vt)])
def evC (e:Evt):List GV:=.int .i64 e.r::.int .i64 e.c::((e.past.map fun n=>GV.int .i64 n)++zui e)
structure EvFit (e:Evt):Prop where
 past:e.past.length=16
 x:ElFit e.x
 t:e.vt.length≤1048576
 n1 : -9223372036854775808≤e.vn
 n2:e.vn≤9223372036854775807
section
variable {e:Evt} (hp:e.past.length=16)
include hp
theorem zfs:(evC e).length=27:=by simp [evC,zui,elC,hp]
theorem zht:List.take 16 (List.drop 2 (evC e))=e.past.map fun n=>GV.int .i64 n:=by
 have:List.drop 2 (evC e)=(e.past.map fun n=>GV.int .i64 n)++zui e:=rfl
 rw [this,List.take_left' (by simp [hp])]
theorem zuL (k:Nat):List.drop (18+k) (evC e)=(zui e).drop k:=by
 have:List.drop (18+k) (evC e)=List.drop (16+k) ((e.past.map fun n=>GV.int .i64 n)++zui e):=by
  rw [show 18+k=(16+k)+2 by omega]; rfl
 rw [this,← List.drop_drop,List.drop_left' (by simp [hp])]
theorem zuM:(evC e)[18]?=some (.int .i64 e.op):=by
 have:=congrArg (·[0]?) (zuL hp 0)
 simpa [zui] using this
theorem zqN:∀ h:18<(evC e).length,(evC e)[18]'h=.int .i64 e.op:=fun h=>by
 have:=zuM hp
 rw [List.getElem?_eq_getElem h] at this
 exact Option.some.inj this
theorem zxt:List.take 5 (List.drop 19 (evC e))=elC e.x:=by
 rw [show 19=18+1 from rfl,zuL hp 1]; rfl
theorem zqO:List.take 3 (List.drop 24 (evC e))=[.int .i64 e.vk,.int .i64 e.vn,.str (mkB e.vt)]:=by
 rw [show 24=18+6 from rfl,zuL hp 6]; rfl
theorem znJ:(evC e).all GV.one=true:=by
 simp [evC,zui,elC]
end
theorem zqP (e:Evt):List.take 2 (evC e)=[.int .i64 e.r,.int .i64 e.c]:=rfl
def evB (e:Evt):Bool:=(ziA e.past e.r e.c&&zqL e.past)&&zky e.op e.x e.vk e.vn e.vt
theorem zuN (e:Evt) (h:EvFit e) (H:GH):ecall T zBP [.agg (evC e)] H=some (.agg (chC e.op e.x e.vk e.vn e.vt),H):=by
 have l1:=zfs h.past
 have l2:=zuM h.past
 have l2':=zqN h.past
 have l3:=zxt h.past
 have l4:=zqO h.past
 apply optW.eq
 rw [zad zEe rfl (by simp [zz7]),zab]
 simp only [elC] at l3
 simp [zz7,zDP,l1,l2,l2',l3,l4,za6,zae,chC,elC]
theorem zma (e:Evt) (h:EvFit e) (H:GH):ecall T zBN [.agg (evC e)] H=some (.int .i64 (if evB e then 0 else 1),H):=by
 have l1:=zfs h.past
 have l2:=zht h.past
 have l3:=zqP e
 have l4:List.take 27 (evC e)=evC e:=List.take_of_length_le (by rw [l1]; exact Nat.le_refl _)
 have hn:=fun H=>zl9 e.past h.past e.r e.c H
 have hv:=fun H=>zkG e.past h.past H
 have ho:=fun H=>zuN e h H
 have hc:=fun H=>zkI e.op e.x e.vk e.vn e.vt h.x h.n1 h.n2 H
 simp only [zoA] at hn hv
 apply optW.eq
 rw [zad zEc rfl (by simp [zxA]),zab]
 unfold evB
 cases h1:ziA e.past e.r e.c with
 | false =>
  rw [h1] at hn
  simp [zxA,zBR,l1,l2,l3,hn]
 | true =>
  rw [h1] at hn
  cases h2:zqL e.past with
  | false =>
   rw [h2] at hv
   simp [zxA,zBR,l1,l2,l3,hn,hv]
  | true =>
   rw [h2] at hv
   simp [zxA,zBR,l1,l2,l3,l4,hn,hv,ho,hc]
end Go.Proofs.YtchjbidfmhmmhaaGreatDoor
