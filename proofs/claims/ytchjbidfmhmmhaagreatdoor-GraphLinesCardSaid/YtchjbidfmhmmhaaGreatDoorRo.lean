/- Own work: the zaO machine and what it shows, part Ro. -/
import Derived.Test.YtchjbidfmhmmhaaGreatDoorDo
set_option linter.all false
namespace Go.Proofs.YtchjbidfmhmmhaaGreatDoor
open Go.Sh
set_option maxHeartbeats 4000000
set_option maxRecDepth 100000
section
variable {e:Evt} (hp:e.past.length=16)
include hp
theorem zgo (j:Nat):(evC e)[18+j]?=(zws e)[j]?:=by
 have:=congrArg (·[0]?) (zwT hp j)
 simpa using this
theorem zz8:(evC e)[18]?=some (.int .i64 e.op)∧(evC e)[19]?=some (.int .i64 e.x.k)∧(evC e)[20]?=some (.str (mkB e.x.a))∧(evC e)[21]?=some (.str (mkB e.x.b))∧(evC e)[22]?=some (.str (mkB e.x.c))∧(evC e)[23]?=some (.str (mkB e.x.d))∧(evC e)[24]?=some (.int .i64 e.vk)∧(evC e)[25]?=some (.int .i64 e.vn)∧(evC e)[26]?=some (.str (mkB e.vt)) :=
 ⟨zgo hp 0,zgo hp 1,zgo hp 2,zgo hp 3,zgo hp 4,zgo hp 5,zgo hp 6,zgo hp 7,zgo hp 8⟩
end
theorem zmt {l:List GV} {i:Nat} {v:GV} (h:l[i]?=some v):∀ hh:i<l.length,l[i]'hh=v:=fun hh=>by
 rw [List.getElem?_eq_getElem hh] at h; exact Option.some.inj h
theorem zn2 (e:Evt) (h:EvFit e) (H:GH):ecall T zwY [.agg (evC e)] H=some (.bool (evB e),H):=by
 have l1:=zc8 h.past
 have l2:=zgX h.past
 have l3:=zlQ e
 have l5:=zp1 h.past
 have l5':=zlP h.past
 have l6:=znw h.past
 have l7:=zo6 h.past
 have hc:=fun H=>zp0 e.op e.x e.vk e.vn e.vt h.x h.t H
 simp only [chC,elC,List.cons_append,List.nil_append] at hc
 simp only [elC] at l6
 apply optW.eq
 rw [zag zFj rfl (by simp [zkH]),zab]
 have hdot:zgP e.r e.c=false→evB e=false:=fun h=>by simp [evB,zlK,h]
 by_cases a1:e.r<0
 ·have:evB e=false:=hdot (by simp [zgP]; omega)
  simp [zkH,zqg,l1,l3,zae,a1,this]
 by_cases a2:15<e.r
 ·have:evB e=false:=hdot (by simp [zgP]; omega)
  simp [zkH,zqg,l1,l3,zae,a1,a2,this]
 by_cases a3:e.c<1
 ·have:evB e=false:=hdot (by simp [zgP]; omega)
  simp [zkH,zqg,l1,l3,zae,a1,a2,a3,this]
 by_cases a4:1048576<e.c
 ·have:evB e=false:=hdot (by simp [zgP]; omega)
  simp [zkH,zqg,l1,l3,zae,a1,a2,a3,a4,this]
 simp only [zkH,zqg]
 simp [l1,l2,l3,zae,a1,a2,a3,a4]
 rw [zao,zai]
 refine ze0 (T:=T) (n:=16) (A:=Unit) (fun _ _=>[(1,.lbox 0 (evC e)),(3,.lbox 1 [.int .i64 e.r,.int .i64 e.c])]) (fun i _ _ H'=>H'=H∧(e.past.take i).all (fun n=>decide (0≤n∧n≤1048576))=true) (c:=29) (b:=0) (I:=28) (d:=37) rfl (by omega) (by decide) rfl (by simp) ?_ ?_ 0 () _ _ H (by omega) ⟨rfl,by simp⟩ (by simp) (.refl _ _ _) (by simp)
 ·intro i a l g H' hi ⟨hH,hall⟩ hh hf hI
  subst hH
  have h27:=hf.get 27 rfl (v:=.agg (e.past.map fun n=>GV.int .i64 n)) (by simp) rfl
  simp only [zah,zaj,and_true] at hh
  have hlt:i<e.past.length:=by rw [h.past]; exact hi
  have hix:gIx 16 (.int .i64 (i:Int))=some i:=by simp only [gIx]; rw [if_pos (by omega)]; simp
  have hg:e.past[i]?=some e.past[i]:=List.getElem?_eq_getElem hlt
  have htake:e.past.take (i+1)=e.past.take i++[e.past[i]]:=by rw [List.take_add_one,hg]; rfl
  generalize e.past[i]=n at hg htake
  have hbad:¬ (0≤n∧n≤1048576)→evB e=false:=fun hn=>by
   have hb:zza e.past=false:=by
    rw [Bool.eq_false_iff]; intro h
    have:=List.all_eq_true.1 h n (List.mem_of_getElem? hg)
    simp at this; omega
   simp [evB,hb]
  by_cases h0:n<0
  ·simp [h27,hI,hix,hg,h0,hbad (by omega)]
  ·by_cases h1:1048576<n
   ·simp [h27,hI,hix,hg,h0,h1,hbad (by omega)]
   ·have hall':(e.past.take (i+1)).all (fun n=>decide (0≤n∧n≤1048576))=true:=by
     rw [htake,List.all_append,hall]; simp; omega
    simp [h27,hI,hix,hg,h0,h1]
    exact fun _=>⟨by simpa using hall',hh.1,hh.2⟩
 ·intro a l g H' ⟨hH,hall⟩ hh hf
  subst hH
  simp only [zah,zaj,and_true] at hh
  have hb:zza e.past=true:=by rw [← h.past,List.take_length] at hall; exact hall
  have hdd:zgP e.r e.c=true:=by simp [zgP]; omega
  have hi:=zsi (r:=e.r) (by omega) (by omega)
  have hat:(evC e)[2+e.r.toNat]?=some (.int .i64 (zdx e.past e.r)):=by
   have h2:=zo4 h.past (r:=e.r) (by omega) (by omega)
   have hl:e.r.toNat<(e.past.map fun n=>GV.int .i64 n).length:=by simp [h.past]; omega
   show (GV.int .i64 e.r::GV.int .i64 e.c::((e.past.map fun n=>GV.int .i64 n)++zws e))[2+e.r.toNat]?=_
   rw [show 2+e.r.toNat=e.r.toNat+1+1 by omega,List.getElem?_cons_succ,List.getElem?_cons_succ,List.getElem?_append_left hl]
   exact h2
  have hw:IntKind.i64.wrap (e.c - 1)=e.c - 1:=zan (by omega) (by omega)
  have hev:evB e=(decide (zdx e.past e.r=e.c - 1)&&znm e.op e.x e.vk e.vn e.vt):=by simp [evB,zlK,hdd,hb]
  rw [hev]
  by_cases hat2:zdx e.past e.r=e.c - 1
  ·simp [hh.1,hh.2,l1,l5,l5',l6,l7,hi,hat,hw,hat2,zaK,zae,elC,hc]
  ·simp [hh.1,hh.2,l1,l5,l6,l7,hi,hat,hw,hat2]
abbrev evG (e:Evt):GV:=.agg (evC e)
structure ElBig (x:El):Prop where
 a:x.a.length≤1125899906842624
 b:x.b.length≤1125899906842624
 c:x.c.length≤1125899906842624
 d:x.d.length≤1125899906842624
structure EvBig (e:Evt):Prop where
 past:e.past.length=16
 x:ElBig e.x
 t:e.vt.length≤1125899906842624
def zjE (x:El):Nat:=x.a.length+x.b.length+x.c.length+x.d.length
theorem zuB (e:Evt) (h:EvBig e) (H:GH):ecall T zwV [evG e] H=some (.bool (decide (zjE e.x+e.vt.length≤300)),H):=by
 obtain ⟨e18,e19,e20,e21,e22,e23,e24,e25,e26⟩:=zz8 h.past
 have el:=zc8 h.past
 have f20:=zmt e20
 have f21:=zmt e21
 have f22:=zmt e22
 have f23:=zmt e23
 have f26:=zmt e26
 obtain ⟨ha,hb,hc,hd⟩:=h.x
 have ht:=h.t
 have q1:IntKind.i64.wrap ((e.x.a.length:Int)+e.x.b.length)=(e.x.a.length:Int)+e.x.b.length:=zan (by omega) (by omega)
 have q2:IntKind.i64.wrap ((e.x.a.length:Int)+e.x.b.length+e.x.c.length)=(e.x.a.length:Int)+e.x.b.length+e.x.c.length:=zan (by omega) (by omega)
 have q3:IntKind.i64.wrap ((e.x.a.length:Int)+e.x.b.length+e.x.c.length+e.x.d.length)=(e.x.a.length:Int)+e.x.b.length+e.x.c.length+e.x.d.length:=zan (by omega) (by omega)
 have q4:IntKind.i64.wrap ((e.x.a.length:Int)+e.x.b.length+e.x.c.length+e.x.d.length+e.vt.length)=(e.x.a.length:Int)+e.x.b.length+e.x.c.length+e.x.d.length+e.vt.length:=zan (by omega) (by omega)
 have hd:decide (zjE e.x+e.vt.length≤300)=decide ((e.x.a.length:Int)+e.x.b.length+e.x.c.length+e.x.d.length+e.vt.length≤300):=by
  simp only [zjE]; congr 1; apply propext; omega
 apply optW.eq
 rw [zag zEW rfl (by simp [zsK]),zab]
 simp [zsK,zBT,el,f20,f21,f22,f23,f26,q1,q2,q3,q4,hd]
theorem zir {e:Evt} (hp:e.past.length=16):zae [GV.int .i64 0,.int .i64 0,.int .i64 0,.int .i64 0,.int .i64 0,.int .i64 0,.int .i64 0,.int .i64 0,.int .i64 0,.int .i64 0,.int .i64 0,.int .i64 0,.int .i64 0,.int .i64 0,.int .i64 0,.int .i64 0,.int .i64 0,.int .i64 0,.int .i64 0,.int .i64 0,.str ⟨#[]⟩,.str ⟨#[]⟩,.str ⟨#[]⟩,.str ⟨#[]⟩,.int .i64 0,.int .i64 0,.str ⟨#[]⟩] 0 (evC e)=some (evC e):=by
 have l1:=zc8 hp
 simp only [zae,l1]; simp
def leB (p v:List Int) (n:Nat):Bool:=(List.range n).all fun k=>decide (zdx p k≤zdx v k)
def zle (v:List Int) (e:Evt):Bool:=evB e&&(decide (zdx v e.r=e.c - 1)&&leB e.past v 16)
def zdD (s:List Evt × List Int) (e:Evt):List Evt × List Int:=if zle s.2 e then (s.1++[e],s.2.set e.r.toNat e.c) else s
def zero16:List Int:=[0,0,0,0,0,0,0,0,0,0,0,0,0,0,0,0]
def zbw (E:List Evt):List Evt × List Int:=E.foldl zdD ([],zero16)
theorem zfN {e:Evt} (h:evB e=true):0≤e.r∧e.r<16∧1≤e.c∧e.c≤1048576:=by
 simp only [evB,zlK,zgP,Bool.and_eq_true,decide_eq_true_eq] at h
 exact h.1.1.1
theorem zuC {s:List Evt × List Int} (h:s.2.length=16) (e:Evt):(zdD s e).2.length=16:=by
 unfold zdD; split <;> simp [h]
theorem zuD {s:List Evt × List Int} {n:Nat} (h:s.1.length≤n) (e:Evt):(zdD s e).1.length≤n+1:=by
 unfold zdD; split
 ·simp only [List.length_append,List.length_singleton]; omega
 ·omega
theorem zg7 {α β:Type} (f:β→α→β) (b:β) (l:List α) (i:Nat) (x:α) (h:l[i]?=some x):(l.take (i+1)).foldl f b=f ((l.take i).foldl f b) x:=by
 rw [List.take_add_one,h]; simp
theorem zqK {e:Evt} (hp:e.past.length=16) {k:Nat} (hk:k<16):(evC e)[2+k]?=some (.int .i64 (zdx e.past k)):=by
 have h2:=zo4 hp (r:=(k:Int)) (by omega) (by omega)
 have hl:k<(e.past.map fun n=>GV.int .i64 n).length:=by simp [hp]; omega
 show (GV.int .i64 e.r::GV.int .i64 e.c::((e.past.map fun n=>GV.int .i64 n)++zws e))[2+k]?=_
 rw [show 2+k=k+1+1 by omega,List.getElem?_cons_succ,List.getElem?_cons_succ,List.getElem?_append_left hl]
 exact h2
theorem zn3 {v:List Int} (hv:v.length=16) {k:Nat} (hk:k<16):v[k]?=some (zdx v k):=by
 have hlt:k<v.length:=by omega
 simp [zdx,hlt]
theorem zz9 {v:List Int} {k:Nat} (hk:k<v.length) (c:Int):zae (v.map zjg) k [.int .i64 c]=some ((v.set k c).map zjg):=by
 simp only [zae,List.length_map,List.length_singleton]
 rw [if_pos (by omega),List.set_eq_take_append_cons_drop,if_pos hk]
 simp
theorem zqL (e:Evt) (hp:e.past.length=16) (v:List Int) (hv:v.length=16) (g5 g7:Nat) (l0:List GV) (g0:Nat) (H0:GH) (K:GExit × St→Prop)
 (h5:zad l0 5=.lbox g5 (v.map zjg)) (h7:zad l0 7=.lbox g7 (evC e)) (h8:zad l0 8=.bool true) (hi0:zad l0 31=.int .i64 0)
 (he:∀ l g,zad l 8=.bool (leB e.past v 16)→Fr zsL l0 l→K (.exit 2,⟨⟨l,g⟩,H0⟩)) :
 optW (erun T (.loop zsL) ⟨⟨l0,g0⟩,H0⟩) K:=by
 refine ze0 (T:=T) (n:=16) (A:=Unit) (fun i _=>[(8,.bool (leB e.past v i))]) (fun i _ _ H'=>H'=H0) (c:=32) (b:=2) (I:=31) (d:=45) rfl (by omega) (by decide) rfl (by simp) ?_ ?_ 0 () _ _ H0 (by omega) rfl (by simp [h8,leB]) (.refl _ _ _) hi0
 ·intro i a l g H' hi hH hh hf hI
  subst hH
  have h5':=hf.get 5 rfl h5 rfl
  have h7':=hf.get 7 rfl h7 rfl
  simp only [zah,zaj,and_true] at hh
  have hix:gIx 16 (.int .i64 (i:Int))=some i:=by simp only [gIx]; rw [if_pos (by omega)]; simp
  have p1:=zqK hp hi
  have p2:=zn3 hv hi
  have hs:leB e.past v (i+1)=(leB e.past v i&&decide (zdx e.past i≤zdx v i)):=zjD _ i
  cases hb:leB e.past v i with
  | false =>
   rw [hb] at hh
   simp [h5',h7',hh,hI,hs,hb]
  | true =>
   rw [hb] at hh
   simp [h5',h7',hh,hI,hix,p1,p2,hs,hb]
 ·intro a l g H' hH hh hf
  subst hH
  simp only [zah,zaj,and_true] at hh
  exact he l g hh hf
theorem zn4 (E:List Evt) (hE:E.length≤1000) (hfit:∀ e∈E,EvFit e) (ve:GV) (hve:Elems 27 ve (E.map evG)) (g5:Nat) (l0:List GV) (g0:Nat) (H0:GH) (hbt:H0.bt≤H0.toks.length) (K:GExit × St→Prop)
 (h10:zad l0 10=ve) (h11:zad l0 11=.int .i64 E.length) (h12:zad l0 12=.int .i64 0) (h4:zad l0 4=.nilsl) (h5:zad l0 5=.lbox g5 (zero16.map zjg)) (b3:GV) (h3:zad l0 3=b3)
 (he:∀ l g H s,zad l 3=b3→zad l 4=s→zad l 5=.lbox g5 ((zbw E).2.map zjg)→Grown 27 H0 .nilsl ((zbw E).1.map evG) H s→Fr zsM l0 l→K (.exit 0,⟨⟨l,g⟩,H⟩)) :
 optW (erun T (.loop zsM) ⟨⟨l0,g0⟩,H0⟩) K:=by
 refine zau (T:=T) (n:=E.length) (A:=GV × List Int) (fun _ s=>[(3,b3),(4,s.1),(5,.lbox g5 (s.2.map zjg))]) (fun i s _ H'=>(zbw (E.take i)).2=s.2∧s.2.length=16∧(zbw (E.take i)).1.length≤i∧Grown 27 H0 .nilsl ((zbw (E.take i)).1.map evG) H' s.1) (c:=13) (b:=0) (I:=12) (N:=11) (d:=58) rfl (by omega) (by decide) ⟨rfl,rfl⟩ (by simp) ?_ ?_ 0 (.nilsl,zero16) _ _ H0 (by omega) ⟨rfl,rfl,by simp [zbw],by simpa [zbw] using Grown.refl App.nil⟩ (by simp [h3,h4,h5]) (.refl _ _ _) h12 h11
 ·intro i s l g H' hi hG hh hf hI
  obtain ⟨w,v⟩:=s
  obtain ⟨hv0,hv,hlen,hG⟩:=hG
  simp only at hv0 hv hlen hG hh
  have h10':=hf.get 10 rfl h10 (by simp [hve.boxy])
  obtain ⟨lt,ix,opt,get,⟨t,sv⟩,wr_,mem⟩:=zbX (e:=evG) hve hi (by omega)
  generalize E[i]'hi=e at opt get mem
  have hfe:=hfit e mem
  have hr:=fun H=>zn2 e hfe H
  have l1:=zc8 hfe.past
  have l4:List.take 27 (evC e)=evC e:=List.take_of_length_le (by rw [l1]; exact Nat.le_refl _)
  have lo:=zht hfe.past
  have sp:=zir hfe.past
  have hst:zbw (E.take (i+1))=zdD (zbw (E.take i)) e:=zg7 zdD _ E i e opt
  rw [hst]
  unfold zdD zle
  rw [hv0]
  generalize hout:(zbw (E.take i)).1=out at hlen hG
  simp only [zah,zaj,and_true] at hh
  rw [sv] at h10'
  have wok:=hG.ok
  cases hb:evB e with
  | false =>
   rw [hb] at hr
   simp [h10',hI,ix,opt,get,sp,l1,l4,lo,hr,hh]
   exact fun _=>⟨w,v,⟨hv0,hv,by rw [hout]; omega,by rw [hout]; exact hG⟩,rfl,rfl⟩
  | true =>
   rw [hb] at hr
   obtain ⟨r0,r1,c0,c1⟩:=zfN hb
   have hix:=zsi r0 r1
   have hat:=zn3 hv (k:=e.r.toNat) (by omega)
   have hat':zdx v ((e.r.toNat:Nat):Int)=zdx v e.r:=by simp only [zdx,Int.toNat_natCast]
   have e0:∀ h:0<(evC e).length,(evC e)[0]'h=.int .i64 e.r:=fun _=>rfl
   have e1:∀ h:1<(evC e).length,(evC e)[1]'h=.int .i64 e.c:=fun _=>rfl
   rw [hat'] at hat
   have hw:IntKind.i64.wrap (e.c - 1)=e.c - 1:=zan (by omega) (by omega)
   by_cases hc:zdx v e.r=e.c - 1
   ·simp [h10',hI,ix,opt,get,sp,l1,l4,lo,hr,hh,hix,hat,hw,hc,e0,e1]
    rw [zai,zao,zai]
    refine zqL e hfe.past v hv g5 g _ _ H' _ (by simp [hh]) (by simp) (by simp) (by simp) ?_
    intro l2 g2 k8 hf2
    have k3:=hf2.get 3 rfl (v:=b3) (by simp [hh]) rfl
    have k4:=hf2.get 4 rfl (v:=w) (by simp [hh]) (by simp [hG.app.elems.boxy])
    have k5:=hf2.get 5 rfl (v:=.lbox g5 (v.map zjg)) (by simp [hh]) rfl
    have k7:=hf2.get 7 rfl (v:=.lbox g (evC e)) (by simp) rfl
    cases hle:leB e.past v 16 with
    | false =>
     rw [hle] at k8
     simp [k8,k3,k4,k5]
     exact fun _=>⟨w,v,⟨hv0,hv,by rw [hout]; omega,by rw [hout]; exact hG⟩,by simp [k4],by simp [k5]⟩
    | true =>
     rw [hle] at k8
     have hb':=hG.step.btle hbt
     have hol:out.length≤1000:=by omega
     obtain ⟨w',H2,a1,G1⟩:=zbj (ty:=36) (bytes:=256) (ys:=[evG e]) (x:=.sl 27 [evG e] .exact) hG.app (by simp [zbB]) hb' (by simp only [List.length_singleton,List.length_map,zdu]; omega) (by simp only [List.length_singleton,List.length_map,maxLen]; omega)
     have wok':=G1.ok
     have hsv:=zz9 (v:=v) (k:=e.r.toNat) (by omega) e.c
     simp [k8,k3,k4,k5,k7,hsv,l1,l4,lo,e0,e1,hix,a1,wok,wok',zaK,zak,sp]
     exact fun _=>⟨w',v.set e.r.toNat e.c,⟨rfl,by simp [hv],by omega,hG.trans G1⟩,rfl,by rw [List.map_set]⟩
   ·simp [h10',hI,ix,opt,get,sp,l1,l4,lo,hr,hh,hix,hat,hw,hc,e0,e1]
    exact fun _=>⟨w,v,⟨hv0,hv,by rw [hout]; omega,by rw [hout]; exact hG⟩,rfl,rfl⟩
 ·intro s l g H' hG hh hf
  obtain ⟨w,v⟩:=s
  obtain ⟨hv0,hv,hlen,hG⟩:=hG
  simp only [zah,zaj,and_true] at hh
  simp only [List.take_length] at hG hv0
  rw [hv0] at he
  exact he l g H' w hh.1 hh.2.1 hh.2.2 hG hf
theorem zg8 (E:List Evt):(zbw E).1.length≤E.length∧(zbw E).2.length=16:=by
 suffices h:∀ (l:List Evt) (s:List Evt × List Int) (n:Nat),s.1.length≤n→s.2.length=16→(l.foldl zdD s).1.length≤n+l.length∧(l.foldl zdD s).2.length=16 by
  have:=h E ([],zero16) 0 (by simp) rfl
  simpa [zbw] using this
 intro l
 induction l with
 | nil=>intro s n h1 h2; exact ⟨by simpa using h1,h2⟩
 | cons e l ih =>
  intro s n h1 h2
  have:=ih (zdD s e) (n+1) (zuD h1 e) (zuC h2 e)
  simp only [List.foldl_cons,List.length_cons]
  exact ⟨by omega,this.2⟩
theorem zqM (E:List Evt) (hE:E.length≤1000) (hfit:∀ e∈E,EvFit e) (ve:GV) (hve:Elems 27 ve (E.map evG)) (H:GH) (hbt:H.bt≤H.toks.length) :
 ∃ s H',ecall T zsl [ve] H=some (.tup [s,.agg ((zbw E).2.map zjg)],H')∧Grown 27 H .nilsl ((zbw E).1.map evG) H' s:=by
 have le:=hve.len
 have ue:=zac hve
 have oe:=hve.ok
 simp only [List.length_map] at le
 have key:optW (ecall T zsl [ve] H) fun r=>∃ s H',r=(.tup [s,.agg ((zbw E).2.map zjg)],H')∧Grown 27 H .nilsl ((zbw E).1.map evG) H' s:=by
  rw [zag zEY rfl (by simp [zsN]),zab]
  simp only [zsN,zBU]
  simp [le,ue,oe]
  rw [zao,zai]
  refine zn4 E hE hfit ve hve 1 _ _ H hbt _ (by simp [ue]) (by simp) (by simp) (by simp) (by simp [zero16]) (.lbox 0 (zero16.map zjg)) (by simp [zero16]) ?_
  intro l g H' s k3 k4 k5 hG hf
  have ok:=hG.ok
  have hl:=(zg8 E).2
  have hone:((zbw E).2.map zjg).all GV.one=true:=by simp
  have ht:List.take 16 ((zbw E).2.map zjg)=(zbw E).2.map zjg:=List.take_of_length_le (by simp [hl])
  generalize (zbw E).2=v at hl hone ht k5 ⊢
  have sp:∀ z:List GV,z.length=16→zae z 0 (v.map zjg)=some (v.map zjg):=fun z hz=>by
   simp only [zae,hz,List.length_map,hl]; simp [hl,hz]
  have tt:List.take 16 (List.map zjg v)=List.map zjg v:=ht
  have t3:List.take 16 v=v:=List.take_of_length_le (by omega)
  have ho2:v.all (GV.one ∘ zjg)=true:=by rw [List.all_eq_true]; intros; rfl
  simp [k3,k4,k5,ok,zero16,hl,sp,tt,t3,ho2]
  exact ⟨s,H',⟨rfl,rfl⟩,hG⟩
 obtain ⟨r,h,s,H',rfl,h2⟩:=key
 exact ⟨s,H',h,h2⟩
end Go.Proofs.YtchjbidfmhmmhaaGreatDoor
