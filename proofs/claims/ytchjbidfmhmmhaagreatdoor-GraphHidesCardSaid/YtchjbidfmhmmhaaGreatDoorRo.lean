/- Own work: the zaG machine and what it shows, part Ro. -/
import Derived.Test.YtchjbidfmhmmhaaGreatDoorDo
set_option linter.all false
namespace Go.Proofs.YtchjbidfmhmmhaaGreatDoor
open Go.Sh
set_option maxHeartbeats 4000000
set_option maxRecDepth 100000
section
variable {e:Evt} (hp:e.past.length=16)
include hp
theorem zfG (j:Nat):(evC e)[18+j]?=(zui e)[j]?:=by
 have:=congrArg (·[0]?) (zuL hp j)
 simpa using this
theorem zxU:(evC e)[18]?=some (.int .i64 e.op)∧(evC e)[19]?=some (.int .i64 e.x.k)∧(evC e)[20]?=some (.str (mkB e.x.a))∧(evC e)[21]?=some (.str (mkB e.x.b))∧(evC e)[22]?=some (.str (mkB e.x.c))∧(evC e)[23]?=some (.str (mkB e.x.d))∧(evC e)[24]?=some (.int .i64 e.vk)∧(evC e)[25]?=some (.int .i64 e.vn)∧(evC e)[26]?=some (.str (mkB e.vt)) :=
 ⟨zfG hp 0,zfG hp 1,zfG hp 2,zfG hp 3,zfG hp 4,zfG hp 5,zfG hp 6,zfG hp 7,zfG hp 8⟩
end
theorem zld {l:List GV} {i:Nat} {v:GV} (h:l[i]?=some v):∀ hh:i<l.length,l[i]'hh=v:=fun hh=>by
 rw [List.getElem?_eq_getElem hh] at h; exact Option.some.inj h
theorem zmE (e:Evt) (h:EvFit e) (H:GH):ecall T zuU [.agg (evC e)] H=some (.bool (evB e),H):=by
 have l1:=zfs h.past
 have l2:=zht h.past
 have l3:=zqP e
 have l5:=zuM h.past
 have l5':=zqN h.past
 have l6:=zxt h.past
 have l7:=zqO h.past
 have hc:=fun H=>zoD e.op e.x e.vk e.vn e.vt h.x h.t H
 simp only [chC,elC,List.cons_append,List.nil_append] at hc
 simp only [elC] at l6
 apply optW.eq
 rw [zad zCH rfl (by simp [zjL]),zab]
 have hdot:zeW e.r e.c=false→evB e=false:=fun h=>by simp [evB,ziA,h]
 by_cases a1:e.r<0
 ·have:evB e=false:=hdot (by simp [zeW]; omega)
  simp [zjL,zoN,l1,l3,zae,a1,this]
 by_cases a2:15<e.r
 ·have:evB e=false:=hdot (by simp [zeW]; omega)
  simp [zjL,zoN,l1,l3,zae,a1,a2,this]
 by_cases a3:e.c<1
 ·have:evB e=false:=hdot (by simp [zeW]; omega)
  simp [zjL,zoN,l1,l3,zae,a1,a2,a3,this]
 by_cases a4:1048576<e.c
 ·have:evB e=false:=hdot (by simp [zeW]; omega)
  simp [zjL,zoN,l1,l3,zae,a1,a2,a3,a4,this]
 simp only [zjL,zoN]
 simp [l1,l2,l3,zae,a1,a2,a3,a4]
 rw [zay,zar]
 refine zeq (T:=T) (n:=16) (A:=Unit) (fun _ _=>[(1,.lbox 0 (evC e)),(3,.lbox 1 [.int .i64 e.r,.int .i64 e.c])]) (fun i _ _ H'=>H'=H∧(e.past.take i).all (fun n=>decide (0≤n∧n≤1048576))=true) (c:=29) (b:=0) (I:=28) (d:=37) rfl (by omega) (by decide) rfl (by simp) ?_ ?_ 0 () _ _ H (by omega) ⟨rfl,by simp⟩ (by simp) (.refl _ _ _) (by simp)
 ·intro i a l g H' hi ⟨hH,hall⟩ hh hf hI
  subst hH
  have h27:=hf.get 27 rfl (v:=.agg (e.past.map fun n=>GV.int .i64 n)) (by simp) rfl
  simp only [zaB,zaM,and_true] at hh
  have hlt:i<e.past.length:=by rw [h.past]; exact hi
  have hix:gIx 16 (.int .i64 (i:Int))=some i:=by simp only [gIx]; rw [if_pos (by omega)]; simp
  have hg:e.past[i]?=some e.past[i]:=List.getElem?_eq_getElem hlt
  have htake:e.past.take (i+1)=e.past.take i++[e.past[i]]:=by rw [List.take_add_one,hg]; rfl
  generalize e.past[i]=n at hg htake
  have hbad:¬ (0≤n∧n≤1048576)→evB e=false:=fun hn=>by
   have hb:zqL e.past=false:=by
    rw [Bool.eq_false_iff]; intro h
    have:=List.all_eq_true.1 h n (List.mem_of_getElem? hg)
    simp at this; omega
   simp [evB,hb]
  by_cases h0:n<0
  ·simp [h27,hI,hix,hg,h0,hbad (by omega)]
  ·by_cases h1:1048576<n
   ·simp [h27,hI,hix,hg,h0,h1,hbad (by omega)]
   ·have hall':(e.past.take (i+1)).all (fun n=>decide (0≤n∧n≤1048576))=true:=by
     rw [htake,List.all_append,hall]; simp; omega
    simp [h27,hI,hix,hg,h0,h1]
    exact fun _=>⟨by simpa using hall',hh.1,hh.2⟩
 ·intro a l g H' ⟨hH,hall⟩ hh hf
  subst hH
  simp only [zaB,zaM,and_true] at hh
  have hb:zqL e.past=true:=by rw [← h.past,List.take_length] at hall; exact hall
  have hdd:zeW e.r e.c=true:=by simp [zeW]; omega
  have hi:=zuH (r:=e.r) (by omega) (by omega)
  have hat:(evC e)[2+e.r.toNat]?=some (.int .i64 (zcu e.past e.r)):=by
   have h2:=znH h.past (r:=e.r) (by omega) (by omega)
   have hl:e.r.toNat<(e.past.map fun n=>GV.int .i64 n).length:=by simp [h.past]; omega
   show (GV.int .i64 e.r::GV.int .i64 e.c::((e.past.map fun n=>GV.int .i64 n)++zui e))[2+e.r.toNat]?=_
   rw [show 2+e.r.toNat=e.r.toNat+1+1 by omega,List.getElem?_cons_succ,List.getElem?_cons_succ,List.getElem?_append_left hl]
   exact h2
  have hw:IntKind.i64.wrap (e.c - 1)=e.c - 1:=zam (by omega) (by omega)
  have hev:evB e=(decide (zcu e.past e.r=e.c - 1)&&zky e.op e.x e.vk e.vn e.vt):=by simp [evB,ziA,hdd,hb]
  rw [hev]
  by_cases hat2:zcu e.past e.r=e.c - 1
  ·simp [hh.1,hh.2,l1,l5,l5',l6,l7,hi,hat,hw,hat2,za6,zae,elC,hc]
  ·simp [hh.1,hh.2,l1,l5,l6,l7,hi,hat,hw,hat2]
abbrev evG (e:Evt):GV:=.agg (evC e)
structure ElBig (x:El):Prop where
 a:x.a.length≤1125899906842624
 b:x.b.length≤1125899906842624
 c:x.c.length≤1125899906842624
 d:x.d.length≤1125899906842624
structure EvBig (e:Evt):Prop where
 past:e.past.length=16
 x:ElBig e.x
 t:e.vt.length≤1125899906842624
def ziQ (x:El):Nat:=x.a.length+x.b.length+x.c.length+x.d.length
theorem zso (e:Evt) (h:EvBig e) (H:GH):ecall T zuO [evG e] H=some (.bool (decide (ziQ e.x+e.vt.length≤300)),H):=by
 obtain ⟨e18,e19,e20,e21,e22,e23,e24,e25,e26⟩:=zxU h.past
 have el:=zfs h.past
 have f20:=zld e20
 have f21:=zld e21
 have f22:=zld e22
 have f23:=zld e23
 have f26:=zld e26
 obtain ⟨ha,hb,hc,hd⟩:=h.x
 have ht:=h.t
 have q1:IntKind.i64.wrap ((e.x.a.length:Int)+e.x.b.length)=(e.x.a.length:Int)+e.x.b.length:=zam (by omega) (by omega)
 have q2:IntKind.i64.wrap ((e.x.a.length:Int)+e.x.b.length+e.x.c.length)=(e.x.a.length:Int)+e.x.b.length+e.x.c.length:=zam (by omega) (by omega)
 have q3:IntKind.i64.wrap ((e.x.a.length:Int)+e.x.b.length+e.x.c.length+e.x.d.length)=(e.x.a.length:Int)+e.x.b.length+e.x.c.length+e.x.d.length:=zam (by omega) (by omega)
 have q4:IntKind.i64.wrap ((e.x.a.length:Int)+e.x.b.length+e.x.c.length+e.x.d.length+e.vt.length)=(e.x.a.length:Int)+e.x.b.length+e.x.c.length+e.x.d.length+e.vt.length:=zam (by omega) (by omega)
 have hd:decide (ziQ e.x+e.vt.length≤300)=decide ((e.x.a.length:Int)+e.x.b.length+e.x.c.length+e.x.d.length+e.vt.length≤300):=by
  simp only [ziQ]; congr 1; apply propext; omega
 apply optW.eq
 rw [zad zCq rfl (by simp [zq7]),zab]
 simp [zq7,zzE,el,f20,f21,f22,f23,f26,q1,q2,q3,q4,hd]
theorem zsp {e:Evt} (hp:e.past.length=16):zae [GV.int .i64 0,.int .i64 0,.int .i64 0,.int .i64 0,.int .i64 0,.int .i64 0,.int .i64 0,.int .i64 0,.int .i64 0,.int .i64 0,.int .i64 0,.int .i64 0,.int .i64 0,.int .i64 0,.int .i64 0,.int .i64 0,.int .i64 0,.int .i64 0,.int .i64 0,.int .i64 0,.str ⟨#[]⟩,.str ⟨#[]⟩,.str ⟨#[]⟩,.str ⟨#[]⟩,.int .i64 0,.int .i64 0,.str ⟨#[]⟩] 0 (evC e)=some (evC e):=by
 have l1:=zfs hp
 simp only [zae,l1]; simp
def leB (p v:List Int) (n:Nat):Bool:=(List.range n).all fun k=>decide (zcu p k≤zcu v k)
def zgp (v:List Int) (e:Evt):Bool:=evB e&&(decide (zcu v e.r=e.c - 1)&&leB e.past v 16)
def zdg (s:List Evt × List Int) (e:Evt):List Evt × List Int:=if zgp s.2 e then (s.1++[e],s.2.set e.r.toNat e.c) else s
def zero16:List Int:=[0,0,0,0,0,0,0,0,0,0,0,0,0,0,0,0]
def zbh (E:List Evt):List Evt × List Int:=E.foldl zdg ([],zero16)
theorem zee {e:Evt} (h:evB e=true):0≤e.r∧e.r<16∧1≤e.c∧e.c≤1048576:=by
 simp only [evB,ziA,zeW,Bool.and_eq_true,decide_eq_true_eq] at h
 exact h.1.1.1
theorem zsq {s:List Evt × List Int} (h:s.2.length=16) (e:Evt):(zdg s e).2.length=16:=by
 unfold zdg; split <;> simp [h]
theorem zsr {s:List Evt × List Int} {n:Nat} (h:s.1.length≤n) (e:Evt):(zdg s e).1.length≤n+1:=by
 unfold zdg; split
 ·simp only [List.length_append,List.length_singleton]; omega
 ·omega
theorem zpg {α β:Type} (f:β→α→β) (b:β) (l:List α) (i:Nat) (x:α) (h:l[i]?=some x):(l.take (i+1)).foldl f b=f ((l.take i).foldl f b) x:=by
 rw [List.take_add_one,h]; simp
theorem zph {e:Evt} (hp:e.past.length=16) {k:Nat} (hk:k<16):(evC e)[2+k]?=some (.int .i64 (zcu e.past k)):=by
 have h2:=znH hp (r:=(k:Int)) (by omega) (by omega)
 have hl:k<(e.past.map fun n=>GV.int .i64 n).length:=by simp [hp]; omega
 show (GV.int .i64 e.r::GV.int .i64 e.c::((e.past.map fun n=>GV.int .i64 n)++zui e))[2+k]?=_
 rw [show 2+k=k+1+1 by omega,List.getElem?_cons_succ,List.getElem?_cons_succ,List.getElem?_append_left hl]
 exact h2
theorem zmF {v:List Int} (hv:v.length=16) {k:Nat} (hk:k<16):v[k]?=some (zcu v k):=by
 have hlt:k<v.length:=by omega
 simp [zcu,hlt]
theorem zxV {v:List Int} {k:Nat} (hk:k<v.length) (c:Int):zae (v.map zkx) k [.int .i64 c]=some ((v.set k c).map zkx):=by
 simp only [zae,List.length_map,List.length_singleton]
 rw [if_pos (by omega),List.set_eq_take_append_cons_drop,if_pos hk]
 simp
theorem zpi (e:Evt) (hp:e.past.length=16) (v:List Int) (hv:v.length=16) (g5 g7:Nat) (l0:List GV) (g0:Nat) (H0:GH) (K:GExit × St→Prop)
 (h5:zag l0 5=.lbox g5 (v.map zkx)) (h7:zag l0 7=.lbox g7 (evC e)) (h8:zag l0 8=.bool true) (hi0:zag l0 31=.int .i64 0)
 (he:∀ l g,zag l 8=.bool (leB e.past v 16)→Fr zq8 l0 l→K (.exit 2,⟨⟨l,g⟩,H0⟩)) :
 optW (erun T (.loop zq8) ⟨⟨l0,g0⟩,H0⟩) K:=by
 refine zeq (T:=T) (n:=16) (A:=Unit) (fun i _=>[(8,.bool (leB e.past v i))]) (fun i _ _ H'=>H'=H0) (c:=32) (b:=2) (I:=31) (d:=45) rfl (by omega) (by decide) rfl (by simp) ?_ ?_ 0 () _ _ H0 (by omega) rfl (by simp [h8,leB]) (.refl _ _ _) hi0
 ·intro i a l g H' hi hH hh hf hI
  subst hH
  have h5':=hf.get 5 rfl h5 rfl
  have h7':=hf.get 7 rfl h7 rfl
  simp only [zaB,zaM,and_true] at hh
  have hix:gIx 16 (.int .i64 (i:Int))=some i:=by simp only [gIx]; rw [if_pos (by omega)]; simp
  have p1:=zph hp hi
  have p2:=zmF hv hi
  have hs:leB e.past v (i+1)=(leB e.past v i&&decide (zcu e.past i≤zcu v i)):=ziP _ i
  cases hb:leB e.past v i with
  | false =>
   rw [hb] at hh
   simp [h5',h7',hh,hI,hs,hb]
  | true =>
   rw [hb] at hh
   simp [h5',h7',hh,hI,hix,p1,p2,hs,hb]
 ·intro a l g H' hH hh hf
  subst hH
  simp only [zaB,zaM,and_true] at hh
  exact he l g hh hf
theorem zmG (E:List Evt) (hE:E.length≤1000) (hfit:∀ e∈E,EvFit e) (ve:GV) (hve:Elems 27 ve (E.map evG)) (g5:Nat) (l0:List GV) (g0:Nat) (H0:GH) (hbt:H0.bt≤H0.toks.length) (K:GExit × St→Prop)
 (h10:zag l0 10=ve) (h11:zag l0 11=.int .i64 E.length) (h12:zag l0 12=.int .i64 0) (h4:zag l0 4=.nilsl) (h5:zag l0 5=.lbox g5 (zero16.map zkx)) (b3:GV) (h3:zag l0 3=b3)
 (he:∀ l g H s,zag l 3=b3→zag l 4=s→zag l 5=.lbox g5 ((zbh E).2.map zkx)→Grown 27 H0 .nilsl ((zbh E).1.map evG) H s→Fr zq9 l0 l→K (.exit 0,⟨⟨l,g⟩,H⟩)) :
 optW (erun T (.loop zq9) ⟨⟨l0,g0⟩,H0⟩) K:=by
 refine za5 (T:=T) (n:=E.length) (A:=GV × List Int) (fun _ s=>[(3,b3),(4,s.1),(5,.lbox g5 (s.2.map zkx))]) (fun i s _ H'=>(zbh (E.take i)).2=s.2∧s.2.length=16∧(zbh (E.take i)).1.length≤i∧Grown 27 H0 .nilsl ((zbh (E.take i)).1.map evG) H' s.1) (c:=13) (b:=0) (I:=12) (N:=11) (d:=58) rfl (by omega) (by decide) ⟨rfl,rfl⟩ (by simp) ?_ ?_ 0 (.nilsl,zero16) _ _ H0 (by omega) ⟨rfl,rfl,by simp [zbh],by simpa [zbh] using Grown.refl App.nil⟩ (by simp [h3,h4,h5]) (.refl _ _ _) h12 h11
 ·intro i s l g H' hi hG hh hf hI
  obtain ⟨w,v⟩:=s
  obtain ⟨hv0,hv,hlen,hG⟩:=hG
  simp only at hv0 hv hlen hG hh
  have h10':=hf.get 10 rfl h10 (by simp [hve.boxy])
  obtain ⟨lt,ix,opt,get,⟨t,sv⟩,wr_,mem⟩:=zeU (e:=evG) hve hi (by omega)
  generalize E[i]'hi=e at opt get mem
  have hfe:=hfit e mem
  have hr:=fun H=>zmE e hfe H
  have l1:=zfs hfe.past
  have l4:List.take 27 (evC e)=evC e:=List.take_of_length_le (by rw [l1]; exact Nat.le_refl _)
  have lo:=znJ hfe.past
  have sp:=zsp hfe.past
  have hst:zbh (E.take (i+1))=zdg (zbh (E.take i)) e:=zpg zdg _ E i e opt
  rw [hst]
  unfold zdg zgp
  rw [hv0]
  generalize hout:(zbh (E.take i)).1=out at hlen hG
  simp only [zaB,zaM,and_true] at hh
  rw [sv] at h10'
  have wok:=hG.ok
  cases hb:evB e with
  | false =>
   rw [hb] at hr
   simp [h10',hI,ix,opt,get,sp,l1,l4,lo,hr,hh]
   exact fun _=>⟨w,v,⟨hv0,hv,by rw [hout]; omega,by rw [hout]; exact hG⟩,rfl,rfl⟩
  | true =>
   rw [hb] at hr
   obtain ⟨r0,r1,c0,c1⟩:=zee hb
   have hix:=zuH r0 r1
   have hat:=zmF hv (k:=e.r.toNat) (by omega)
   have hat':zcu v ((e.r.toNat:Nat):Int)=zcu v e.r:=by simp only [zcu,Int.toNat_natCast]
   have e0:∀ h:0<(evC e).length,(evC e)[0]'h=.int .i64 e.r:=fun _=>rfl
   have e1:∀ h:1<(evC e).length,(evC e)[1]'h=.int .i64 e.c:=fun _=>rfl
   rw [hat'] at hat
   have hw:IntKind.i64.wrap (e.c - 1)=e.c - 1:=zam (by omega) (by omega)
   by_cases hc:zcu v e.r=e.c - 1
   ·simp [h10',hI,ix,opt,get,sp,l1,l4,lo,hr,hh,hix,hat,hw,hc,e0,e1]
    rw [zar,zay,zar]
    refine zpi e hfe.past v hv g5 g _ _ H' _ (by simp [hh]) (by simp) (by simp) (by simp) ?_
    intro l2 g2 k8 hf2
    have k3:=hf2.get 3 rfl (v:=b3) (by simp [hh]) rfl
    have k4:=hf2.get 4 rfl (v:=w) (by simp [hh]) (by simp [hG.app.elems.boxy])
    have k5:=hf2.get 5 rfl (v:=.lbox g5 (v.map zkx)) (by simp [hh]) rfl
    have k7:=hf2.get 7 rfl (v:=.lbox g (evC e)) (by simp) rfl
    cases hle:leB e.past v 16 with
    | false =>
     rw [hle] at k8
     simp [k8,k3,k4,k5]
     exact fun _=>⟨w,v,⟨hv0,hv,by rw [hout]; omega,by rw [hout]; exact hG⟩,by simp [k4],by simp [k5]⟩
    | true =>
     rw [hle] at k8
     have hb':=hG.step.btle hbt
     have hol:out.length≤1000:=by omega
     obtain ⟨w',H2,a1,G1⟩:=zbL (ty:=36) (bytes:=256) (ys:=[evG e]) (x:=.sl 27 [evG e] .exact) hG.app (by simp [zbK]) hb' (by simp only [List.length_singleton,List.length_map,room]; omega) (by simp only [List.length_singleton,List.length_map,maxLen]; omega)
     have wok':=G1.ok
     have hsv:=zxV (v:=v) (k:=e.r.toNat) (by omega) e.c
     simp [k8,k3,k4,k5,k7,hsv,l1,l4,lo,e0,e1,hix,a1,wok,wok',za6,zaj,sp]
     exact fun _=>⟨w',v.set e.r.toNat e.c,⟨rfl,by simp [hv],by omega,hG.trans G1⟩,rfl,by rw [List.map_set]⟩
   ·simp [h10',hI,ix,opt,get,sp,l1,l4,lo,hr,hh,hix,hat,hw,hc,e0,e1]
    exact fun _=>⟨w,v,⟨hv0,hv,by rw [hout]; omega,by rw [hout]; exact hG⟩,rfl,rfl⟩
 ·intro s l g H' hG hh hf
  obtain ⟨w,v⟩:=s
  obtain ⟨hv0,hv,hlen,hG⟩:=hG
  simp only [zaB,zaM,and_true] at hh
  simp only [List.take_length] at hG hv0
  rw [hv0] at he
  exact he l g H' w hh.1 hh.2.1 hh.2.2 hG hf
theorem zey (E:List Evt):(zbh E).1.length≤E.length∧(zbh E).2.length=16:=by
 suffices h:∀ (l:List Evt) (s:List Evt × List Int) (n:Nat),s.1.length≤n→s.2.length=16→(l.foldl zdg s).1.length≤n+l.length∧(l.foldl zdg s).2.length=16 by
  have:=h E ([],zero16) 0 (by simp) rfl
  simpa [zbh] using this
 intro l
 induction l with
 | nil=>intro s n h1 h2; exact ⟨by simpa using h1,h2⟩
 | cons e l ih =>
  intro s n h1 h2
  have:=ih (zdg s e) (n+1) (zsr h1 e) (zsq h2 e)
  simp only [List.foldl_cons,List.length_cons]
  exact ⟨by omega,this.2⟩
theorem zpj (E:List Evt) (hE:E.length≤1000) (hfit:∀ e∈E,EvFit e) (ve:GV) (hve:Elems 27 ve (E.map evG)) (H:GH) (hbt:H.bt≤H.toks.length) :
 ∃ s H',ecall T zqQ [ve] H=some (.tup [s,.agg ((zbh E).2.map zkx)],H')∧Grown 27 H .nilsl ((zbh E).1.map evG) H' s:=by
 have le:=hve.len
 have ue:=zaf hve
 have oe:=hve.ok
 simp only [List.length_map] at le
 have key:optW (ecall T zqQ [ve] H) fun r=>∃ s H',r=(.tup [s,.agg ((zbh E).2.map zkx)],H')∧Grown 27 H .nilsl ((zbh E).1.map evG) H' s:=by
  rw [zad zCs rfl (by simp [zra]),zab]
  simp only [zra,zzF]
  simp [le,ue,oe]
  rw [zay,zar]
  refine zmG E hE hfit ve hve 1 _ _ H hbt _ (by simp [ue]) (by simp) (by simp) (by simp) (by simp [zero16]) (.lbox 0 (zero16.map zkx)) (by simp [zero16]) ?_
  intro l g H' s k3 k4 k5 hG hf
  have ok:=hG.ok
  have hl:=(zey E).2
  have hone:((zbh E).2.map zkx).all GV.one=true:=by simp
  have ht:List.take 16 ((zbh E).2.map zkx)=(zbh E).2.map zkx:=List.take_of_length_le (by simp [hl])
  generalize (zbh E).2=v at hl hone ht k5 ⊢
  have sp:∀ z:List GV,z.length=16→zae z 0 (v.map zkx)=some (v.map zkx):=fun z hz=>by
   simp only [zae,hz,List.length_map,hl]; simp [hl,hz]
  have tt:List.take 16 (List.map zkx v)=List.map zkx v:=ht
  have t3:List.take 16 v=v:=List.take_of_length_le (by omega)
  have ho2:v.all (GV.one ∘ zkx)=true:=by rw [List.all_eq_true]; intros; rfl
  simp [k3,k4,k5,ok,zero16,hl,sp,tt,t3,ho2]
  exact ⟨s,H',⟨rfl,rfl⟩,hG⟩
 obtain ⟨r,h,s,H',rfl,h2⟩:=key
 exact ⟨s,H',h,h2⟩
end Go.Proofs.YtchjbidfmhmmhaaGreatDoor
