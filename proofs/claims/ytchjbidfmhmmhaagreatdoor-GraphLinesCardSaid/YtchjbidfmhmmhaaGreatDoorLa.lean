/- Own work: the zaO machine and what it shows, part La. -/
import Derived.Test.YtchjbidfmhmmhaaGreatDoorSr
import Derived.Test.YtchjbidfmhmmhaaGreatDoorGz
import Derived.Lib.Join
set_option linter.all false
namespace Go.Proofs.YtchjbidfmhmmhaaGreatDoor
open Go.Sh
set_option maxHeartbeats 4000000
set_option maxRecDepth 100000
theorem zzi {P:Vl→Prop} : ∀ (l out:List Vl),(∀ v∈out,P v)→(∀ v∈l,P v)→∀ v∈l.foldl zgQ out,P v
 | [],out,ho,_=>ho
 | x::l,out,ho,hl=>by
  rw [List.foldl_cons]
  refine zzi l _ (fun v hv=>?_) fun v hv=>hl v (List.mem_cons_of_mem _ hv)
  unfold zgQ at hv
  split at hv
  ·exact ho v hv
  ·rcases insP_mem.1 hv with rfl | hv
   ·exact hl _ List.mem_cons_self
   ·exact ho v hv
def zk2 (v:Vl):Prop:=v.t.length≤64∧-9223372036854775808≤v.n∧v.n≤9223372036854775807
theorem zhw {R:List Evt} (h:Row R) (z:El):∀ v∈za4 R z,zk2 v:=by
 intro v hv
 unfold za4 at hv
 split at hv
 ·cases hv
 ·rename_i hc
  simp only [Bool.or_eq_true,decide_eq_true_eq,not_or] at hc
  refine zzi (P:=zk2) _ [] (by simp) (fun x hx=>?_) v hv
  obtain ⟨e,he,rfl⟩:=List.mem_map.1 hx
  obtain ⟨h1,h2⟩:=List.mem_filter.1 he
  simp only [zcQ,Bool.and_eq_true,decide_eq_true_eq] at h2
  obtain ⟨⟨rfl,hop⟩,_⟩:=h2
  have hev:=((zgk rfl h.causl).2 e h1).1
  simp only [evB,Bool.and_eq_true] at hev
  have hm:=hev.2
  unfold znm at hm
  simp only [Bool.and_eq_true] at hm
  have hm2:=hm.2
  have hfit:=h.fit e h1
  rcases hop with ho | ho
  ·rw [ho] at hm2
   simp only [true_or,if_true,Bool.and_eq_true,decide_eq_true_eq] at hm2
   exact absurd hm2.2 hc.1
  ·rw [ho] at hm2
   have h31:¬ ((3:Int)=1∨(3:Int)=2):=by omega
   simp only [h31,if_false,if_true,Bool.and_eq_true,decide_eq_true_eq] at hm2
   obtain ⟨_,hk,hr⟩:=hm2
   refine ⟨?_,hfit.n1,hfit.n2⟩
   unfold zdS at hr
   rw [if_neg (by omega)] at hr
   split at hr
   ·simp at hr; simp [zcK,hr.2]
   ·split at hr
    ·simp at hr; simp [zcK,hr.2.2]
    ·rw [if_pos (by omega)] at hr
     simp [zky] at hr
     simp only [zcK]; omega
theorem zzj (v:Vl):(vlC v).length=3:=rfl
theorem zue (v:Vl):List.take 3 (vlC v)=vlC v:=rfl
theorem zzk (v:Vl):(vlC v).all GV.one=true:=rfl
theorem zzl (v:Vl):zae [GV.int .i64 0,.int .i64 0,.str ⟨#[]⟩] 0 (vlC v)=some (vlC v):=rfl
def zc3 (v:Vl):List UInt8:=zzB v.k v.n v.t
theorem zk3 (v:Vl) (h:zk2 v) (H:GH):ecall T zsG [.agg (vlC v)] H=some (.str (mkB (zc3 v)),H):=by
 have:=znb v.k v.n (mkB v.t) (by rw [zee]; have:=h.1; omega) h.2.1 h.2.2 H
 rw [zbn] at this
 exact this
theorem zuf (v:Vl) (h:zk2 v) (H:GH):ecall T zsH [.agg (vlC v)] H=some (.str (mkB (zc3 v)),H):=by
 have:=zyY v.k v.n (mkB v.t) (by rw [zee]; have:=h.1; omega) H
 rw [zbn] at this
 exact this
abbrev zmh:List UInt8:=[32]
def zaE (w:List UInt8) (ws:List (List UInt8)):List UInt8:=w++Lib.joinTail zmh ws
theorem zdB (w:List UInt8) (ws:List (List UInt8)):Lib.join (w::ws) zmh=zaE w ws:=Lib.join_cons w ws zmh
theorem zmi (w:List UInt8) (ws:List (List UInt8)) (x:List UInt8):zaE w (ws++[x])=zaE w ws++32::x:=by
 simp [zaE,Lib.joinTail]
theorem zhX (w:List UInt8) (M:Nat):∀ (ws:List (List UInt8)),(∀ x∈ws,x.length≤M)→(zaE w ws).length≤w.length+ws.length * (M+1)
 | [],_=>by simp [zaE,Lib.joinTail]
 | x::ws,h=>by
  have h1:=zhX w M ws fun y hy=>h y (List.mem_cons_of_mem _ hy)
  have h2:=h x List.mem_cons_self
  have h3:(zaE w (x::ws)).length=(zaE w ws).length+1+x.length:=by
   simp [zaE,Lib.joinTail]; omega
  rw [h3,List.length_cons,Nat.succ_mul]; omega
theorem zug (vs:List Vl) (hl:vs.length≤1000) (hb:∀ v∈vs,zk2 v) (v:GV) (hv:Elems 3 v (vs.map vlG)) (ws:List (List UInt8)) (hw:ws.length≤1000) (l0:List GV) (g0:Nat) (H0:GH) (hbt:H0.bt≤H0.toks.length) (s0:GV) (ha0:App H0 1 s0 (ws.map zaJ)) (K:GExit × St→Prop)
 (h14:zad l0 14=v) (h15:zad l0 15=.int .i64 vs.length) (h16:zad l0 16=.int .i64 0) (h1:zad l0 1=s0)
 (he:∀ l g H s,zad l 1=s→Elems 1 s ((ws++vs.map zc3).map zaJ)→K (.exit 0,⟨⟨l,g⟩,H⟩)) :
 optW (erun T (.loop zze) ⟨⟨l0,g0⟩,H0⟩) K:=by
 refine zau (T:=T) (n:=vs.length) (A:=GV) (fun _ s=>[(1,s)]) (fun i s _ H'=>App H' 1 s ((ws++(vs.take i).map zc3).map zaJ)∧H'.bt≤H'.toks.length) (c:=17) (b:=0) (I:=16) (N:=15) (d:=25) rfl (by omega) (by decide) ⟨rfl,rfl⟩ (by simp) ?_ ?_ 0 s0 _ _ H0 (by omega) ⟨by simpa using ha0,hbt⟩ (by simp [h1]) (.refl _ _ _) h16 h15
 ·intro i s l g H' hi ⟨ha,hbt'⟩ hh hf hI
  have k14:=hf.get 14 rfl h14 (by simp [hv.boxy])
  simp only [zah,zaj,and_true] at hh
  obtain ⟨lt,ix,opt,get,⟨t,sv⟩,_,mem⟩:=zbX (e:=vlG) hv hi (by omega)
  generalize vs[i]'hi=e at opt get mem
  have htake:vs.take (i+1)=vs.take i++[e]:=by rw [List.take_add_one,opt]; rfl
  have hlen:(ws++(vs.take i).map zc3).length≤2000:=by rw [List.length_append,List.length_map,List.length_take]; omega
  have hnx:ws++(vs.take (i+1)).map zc3=(ws++(vs.take i).map zc3)++[zc3 e]:=by rw [htake]; simp
  rw [hnx]
  generalize ws++(vs.take i).map zc3=M at ha hlen
  obtain ⟨w',H2,a1,G1⟩:=zbj (ty:=9) (bytes:=16) (ys:=[zaJ (zc3 e)]) (x:=.sl 1 [zaJ (zc3 e)] .exact) ha (by simp [zbB]) hbt' (by simp only [List.length_singleton,List.length_map,zdu]; omega) (by simp only [List.length_singleton,List.length_map,maxLen]; omega)
  have hS:=fun H=>zk3 e (hb e mem) H
  have su:=zac ha.elems
  have so:=ha.elems.ok
  have wu:=zac G1.app.elems
  have wo:=G1.ok
  rw [sv] at k14
  simp only [zaJ] at a1
  simp [k14,hh,hI,ix,opt,get,zzj,zue,zzk,zzl,hS,su,so,zak,a1,wu,wo]
  refine fun _=>⟨by simpa using G1.app, ?_⟩
  exact G1.step.btle hbt'
 ·intro s l g H' ⟨ha,_⟩ hh hf
  simp only [zah,zaj,and_true] at hh
  rw [List.take_length] at ha
  exact he l g H' s hh ha.elems
theorem zmj {H:GH} {n:Nat} {w:Vw} {links:List Lk} {outs ins:List UInt8→List Lk} (hV:VDone H n w links outs ins) (hbt:H.bt≤H.toks.length) (x:El) (hk:zaC true kLs (elG x)=true) (w0:List UInt8) (ws:List (List UInt8)) (hw:ws.length≤900) (hl:(w.values x).length≤1000) (hb:∀ v∈w.values x,zk2 v)
 (hj:(zaE w0 (ws++(w.values x).map zc3)).length≤100000000) :
 ecall T zsx [.ptr (n+6) 0,.sl 1 ((w0::ws).map zaJ) .exact,.agg (elC x)] H=some (.str (mkB (zaE w0 (ws++(w.values x).map zc3))),H):=by
 obtain ⟨vn,vl,h6,_,_⟩:=hV.obj
 obtain ⟨es,h3,hM⟩:=hV.values
 have hn:=hM.at_ x hk
 generalize hv:(za5 es (elG x)).getD .nilsl=v0 at hn
 have hlx:(elC x).length=5:=rfl
 have htx:List.take 5 (elC x)=elC x:=rfl
 have hcl:∀ s,zaM H.objs.length H.toks.length 100 (.str s)=some (.str s):=fun _=>rfl
 have nl:=hn.len
 have nu:=hn.unb
 have no:=hn.ok
 simp only [List.length_map] at nl
 apply optW.eq
 rw [zbd zFu rfl (by simp [ztr]),zab]
 simp only [ztr,zCn]
 simp [h6,h3,hk,hv,hlx,htx,nl,nu,no]
 rw [zao,zai]
 refine zug (w.values x) hl hb v0 hn (w0::ws) (by simp; omega) _ _ H.over (Nat.le_refl _) (.sl 1 ((w0::ws).map zaJ) .exact) (.exact _) _ (by simp [nu]) (by simp) (by simp) (by simp) ?_
 intro l g H1 s k1 hs
 have hJ:=zkD s (w0::(ws++(w.values x).map zc3)) (by simpa using hs) zmh (by simp; omega) (by rw [zdB]; exact hj) H1
 rw [zdB] at hJ
 have su:=zac hs
 have so:=hs.ok
 change ecall T zkF [s,.str ⟨#[32]⟩] H1=_ at hJ
 simp [k1,su,so,hJ,hcl]
abbrev zfM:List UInt8:=[110,111,100,101]
abbrev zmk:List UInt8:=[112,114,111,112]
abbrev zxA:List UInt8:=[101,100,103,101]
abbrev zhx:List UInt8:=[116,114,97,105,116]
def zei (w:Vw) (key:List UInt8):List UInt8:=zaE zfM (key::w.labels key)
def zbV (w:Vw) (key nm:List UInt8):List UInt8:=zaE zmk ([key,nm]++(w.values ⟨4,key,[],[],nm⟩).map zc3)
def zej (x:Lk):List UInt8:=zaE zxA [x.f,x.y,x.t]
def zbl (w:Vw) (x:Lk) (nm:List UInt8):List UInt8:=zaE zhx ([x.f,x.y,x.t,nm]++(w.values ⟨5,x.f,x.t,x.y,nm⟩).map zc3)
def zbe (w:Vw) (key:List UInt8):List (List UInt8):=zei w key::(w.names (zaD key)).map (zbV w key)
def zbA (w:Vw) (x:Lk):List (List UInt8):=zej x::(w.names (zbr x)).map (zbl w x)
def zj9 (w:Vw) (links:List Lk):List (List UInt8):=w.nodes.flatMap (zbe w)++links.flatMap (zbA w)
structure VwOk (w:Vw) (links:List Lk):Prop where
 nodes:w.nodes.length≤60
 node:∀ k∈w.nodes,k.length≤1048576
 labels:∀ k,(w.labels k).length≤60
 label:∀ k,∀ l∈w.labels k,l.length≤1048576
 names:∀ o,(w.names o).length≤60
 name:∀ o,∀ l∈w.names o,l.length≤1048576
 values:∀ z,(w.values z).length≤60
 value:∀ z,∀ v∈w.values z,zk2 v
 lcount:links.length≤60
 link:∀ x∈links,x.f.length≤1048576∧x.t.length≤1048576∧x.y.length≤1048576
theorem zuh {v:Vl} (h:zk2 v):(zc3 v).length≤1048576:=by
 obtain ⟨h1,_,_⟩:=h
 unfold zc3 zzB
 cases hr:zdS v.k v.n v.t with
 | false=>simp
 | true =>
  obtain ⟨k,n,t⟩:=v
  simp only at hr h1 ⊢
  rcases zf5 hr with ⟨rfl,h2,h3⟩ | ⟨rfl,h2,h3⟩ | ⟨rfl,h2,h3⟩ | ⟨rfl,q1,h2,h3⟩ | ⟨rfl,h2⟩ | ⟨rfl,h2⟩ | ⟨rfl,h2⟩
  ·simp [zji]
  ·subst h2; simp [zji]
  ·subst h2; simp [zji]
  ·have:=zlA n q1 h2
   simp [zji]; omega
  ·have:=zoR t
   simp [zji]; omega
  ·simp [zji]; omega
  ·simp [zji]; omega
theorem zph {w:Vw} {links:List Lk} (h:VwOk w links) {key nm:List UInt8} (hk:key.length≤1048576) (hn:nm.length≤1048576):(zbV w key nm).length≤100000000:=by
 have h1:=zhX zmk 1048576 ([key,nm]++(w.values ⟨4,key,[],[],nm⟩).map zc3) (fun x hx=>by
  rcases List.mem_append.1 hx with hx | hx
  ·simp only [List.mem_cons,List.not_mem_nil,or_false] at hx
   rcases hx with rfl | rfl <;> assumption
  ·obtain ⟨v,hv,rfl⟩:=List.mem_map.1 hx
   exact zuh (h.value _ v hv))
 have h2:=h.values ⟨4,key,[],[],nm⟩
 have h3:([key,nm]++(w.values ⟨4,key,[],[],nm⟩).map zc3).length≤62:=by simp; omega
 have h4:=Nat.mul_le_mul_right (1048576+1) h3
 unfold zbV
 simp only [List.length_cons,List.length_nil] at h1
 omega
theorem zml {w:Vw} {links:List Lk} (h:VwOk w links) {x:Lk} (hx:x.f.length≤1048576∧x.t.length≤1048576∧x.y.length≤1048576) {nm:List UInt8} (hn:nm.length≤1048576):(zbl w x nm).length≤100000000:=by
 obtain ⟨x1,x2,x3⟩:=hx
 have h1:=zhX zhx 1048576 ([x.f,x.y,x.t,nm]++(w.values ⟨5,x.f,x.t,x.y,nm⟩).map zc3) (fun x hx=>by
  rcases List.mem_append.1 hx with hx | hx
  ·simp only [List.mem_cons,List.not_mem_nil,or_false] at hx
   rcases hx with rfl | rfl | rfl | rfl <;> assumption
  ·obtain ⟨v,hv,rfl⟩:=List.mem_map.1 hx
   exact zuh (h.value _ v hv))
 have h2:=h.values ⟨5,x.f,x.t,x.y,nm⟩
 have h3:([x.f,x.y,x.t,nm]++(w.values ⟨5,x.f,x.t,x.y,nm⟩).map zc3).length≤64:=by simp; omega
 have h4:=Nat.mul_le_mul_right (1048576+1) h3
 unfold zbl
 simp only [List.length_cons,List.length_nil] at h1
 omega
theorem zpi {w:Vw} {links:List Lk} (h:VwOk w links) {key:List UInt8} (hk:key.length≤1048576):(zei w key).length≤100000000:=by
 have h1:=zhX zfM 1048576 (key::w.labels key) (fun x hx=>by
  rcases List.mem_cons.1 hx with rfl | hx
  ·exact hk
  ·exact h.label _ x hx)
 have h2:=h.labels key
 have h3:(key::w.labels key).length≤61:=by simp; omega
 have h4:=Nat.mul_le_mul_right (1048576+1) h3
 unfold zei
 simp only [List.length_cons,List.length_nil] at h1 h4
 omega
theorem zxB {x:Lk} (hx:x.f.length≤1048576∧x.t.length≤1048576∧x.y.length≤1048576):(zej x).length≤100000000:=by
 obtain ⟨x1,x2,x3⟩:=hx
 simp [zej,zaE,Lib.joinTail]; omega
structure LnAt (H0:GH) (L:List (List UInt8)) (s:GV) (H:GH):Prop where
 app:App H 1 s (L.map zaJ)
 objs:H.objs=H0.objs
 bo:H.bo=H0.bo
 bt:H.bt=H0.bt
 toks:H0.toks.length≤H.toks.length
theorem LnAt.step {H0 H:GH} {L:List (List UInt8)} {s:GV} (h:LnAt H0 L s H) (hbt:H0.bt≤H0.toks.length) (hl:L.length≤1000000) (x:List UInt8) :
 ∃ s' H',zaV H 9 1 16 s (.sl 1 [zaJ x] .exact)=some (s',H')∧LnAt H0 (L++[x]) s' H'∧s'.ok=true:=by
 obtain ⟨s',H',a1,G1⟩:=zbj (ty:=9) (bytes:=16) (ys:=[zaJ x]) (x:=.sl 1 [zaJ x] .exact) h.app (by simp [zbB]) (by rw [h.bt]; exact Nat.le_trans hbt h.toks) (by simp only [List.length_singleton,List.length_map,zdu]; omega) (by simp only [List.length_singleton,List.length_map,maxLen]; omega)
 exact ⟨s',H',a1,⟨by simpa using G1.app,G1.step.objs.trans h.objs,G1.step.bo.trans h.bo,G1.step.bt.trans h.bt,Nat.le_trans h.toks G1.step.len⟩,G1.ok⟩
theorem LnAt.bts {H0 H:GH} {L:List (List UInt8)} {s:GV} (h:LnAt H0 L s H) (hbt:H0.bt≤H0.toks.length):H.bt≤H.toks.length:=by
 rw [h.bt]; exact Nat.le_trans hbt h.toks
section
variable {n:Nat} {w:Vw} {links:List Lk} {outs ins:List UInt8→List Lk} (hok:VwOk w links)
include hok
theorem zqy (key:List UInt8) (hkey:key.length≤1048576) (v:GV) (hv:Elems 1 v ((w.names (zaD key)).map zaJ)) (D:List (List UInt8)) (hD:D.length≤100000) (l0:List GV) (g0:Nat) (H0:GH) (hV:VDone H0 n w links outs ins) (hbt:H0.bt≤H0.toks.length) (s0:GV) (H1:GH) (h0:LnAt H0 D s0 H1) (K:GExit × St→Prop)
 (h38:zad l0 38=v) (h39:zad l0 39=.int .i64 (w.names (zaD key)).length) (h40:zad l0 40=.int .i64 0) (hs0:zad l0 0=.ptr (n+6) 0) (h5:zad l0 5=.str (mkB key)) (h3:zad l0 3=s0)
 (he:∀ l g H s,zad l 3=s→LnAt H0 (D++(w.names (zaD key)).map (zbV w key)) s H→Fr zsX l0 l→K (.exit 2,⟨⟨l,g⟩,H⟩)) :
 optW (erun T (.loop zsX) ⟨⟨l0,g0⟩,H1⟩) K:=by
 have hnl:=hok.names (zaD key)
 have hnm:=hok.name (zaD key)
 generalize w.names (zaD key)=N at hv h39 he hnl hnm
 refine zau (T:=T) (n:=N.length) (A:=GV) (fun _ s=>[(3,s)]) (fun i s _ H'=>LnAt H0 (D++(N.take i).map (zbV w key)) s H') (c:=41) (b:=2) (I:=40) (N:=39) (d:=55) rfl (by omega) (by decide) ⟨rfl,rfl⟩ (by simp) ?_ ?_ 0 s0 _ _ H1 (by omega) (by simpa using h0) (by simp [h3]) (.refl _ _ _) h40 h39
 ·intro i s l g H' hi hL hh hf hI
  have k38:=hf.get 38 rfl h38 (by simp [hv.boxy])
  have k0:=hf.get 0 rfl hs0 rfl
  have k5:=hf.get 5 rfl h5 rfl
  simp only [zah,zaj,and_true] at hh
  obtain ⟨lt,ix,opt,get,⟨t,sv⟩,_,mem⟩:=zbX (e:=zaJ) hv hi (by omega)
  generalize N[i]'hi=e at opt get mem
  have hnx:D++(N.take (i+1)).map (zbV w key)=(D++(N.take i).map (zbV w key))++[zbV w key e]:=by rw [List.take_add_one,opt]; simp
  have hlen:(D++(N.take i).map (zbV w key)).length≤200000:=by rw [List.length_append,List.length_map,List.length_take]; omega
  rw [hnx]
  generalize D++(N.take i).map (zbV w key)=M at hL hlen
  have hkp:=zmj (hV.keep (fun j _ _=>by rw [hL.objs])) (hL.bts hbt) ⟨4,key,[],[],e⟩ (zg6 ⟨by simp; omega,by simp,by simp,by have:=hnm e mem; simp; omega⟩ ⟨by simp,by simp⟩) zmk [key,e] (by simp) (by have:=hok.values ⟨4,key,[],[],e⟩; omega) (hok.value _) (zph hok hkey (hnm e mem))
  obtain ⟨s',H2,a1,L1,o1⟩:=hL.step hbt (by omega) (zbV w key e)
  have su:=zac hL.app.elems
  have so:=hL.app.elems.ok
  have wu:=zac L1.app.elems
  have m1:mkB zmk=(⟨#[112,114,111,112]⟩:ByteArray):=rfl
  simp only [elC,zdN,List.map_cons,List.map_nil,zaJ,List.cons_append,List.nil_append,m1] at hkp
  have hpl:zaE zmk (key::e::(w.values ⟨4,key,[],[],e⟩).map zc3)=zbV w key e:=rfl
  rw [hpl] at hkp
  have hc0:(zaJ e).cells=[.str (mkB e)]:=rfl
  rw [sv] at k38
  simp only [zaJ] at a1
  simp [k38,k0,k5,hh,hI,ix,opt,get,hc0,zaK,zae,zak,su,so,hkp,a1,wu,o1,L1]
 ·intro s l g H' hL hh hf
  simp only [zah,zaj,and_true] at hh
  rw [List.take_length] at hL
  exact he l g H' s hh hL hf
end
theorem LnAt.beside {H0 H:GH} {L:List (List UInt8)} {s:GV} (h:LnAt H0 L s H) (hbt:H0.bt≤H0.toks.length) (ys zs:List (List UInt8)) (v:GV) (hv:Elems 1 v (zs.map zaJ)) (h1:ys.length≤1000) (h2:zs.length≤1000) :
 ∃ s' H',zaV H 9 1 16 (.sl 1 (ys.map zaJ) .exact) v=some (s',H')∧Elems 1 s' ((ys++zs).map zaJ)∧LnAt H0 L s H':=by
 have ha:Ap (fun t=>if zeX s=some t then some (0:Nat) else none) 0 H 1 s (L.map zaJ):=⟨h.app,fun t ht=>by simp [ht]⟩
 have hb:Ap (fun t=>if zeX s=some t then some (0:Nat) else none) 1 H 1 (.sl 1 (ys.map zaJ) .exact) (ys.map zaJ):=⟨.exact _,fun t ht=>by simp [zeX] at ht⟩
 obtain ⟨s',H',a1,a2,⟨a3,a4,a5,a6⟩,own',b1,b2⟩:=ztX (ty:=9) (bytes:=16) hb hv.news (h.bts hbt) (by simp only [List.length_map,zdu]; omega) (by simp only [List.length_map,maxLen]; omega)
 refine ⟨s',H',a1,by simpa using b1.elems,(b2 0 (by decide) _ _ _ ha).1,a3.trans h.objs,a4.trans h.bo,a5.trans h.bt,Nat.le_trans h.toks a6⟩
section
variable {n:Nat} {w:Vw} {links:List Lk} {outs ins:List UInt8→List Lk} (hok:VwOk w links)
include hok
theorem zqz (v:GV) (hv:Elems 1 v (w.nodes.map zaJ)) (l0:List GV) (g0:Nat) (H0:GH) (hV:VDone H0 n w links outs ins) (hbt:H0.bt≤H0.toks.length) (K:GExit × St→Prop)
 (h13:zad l0 13=v) (h14:zad l0 14=.int .i64 w.nodes.length) (h15:zad l0 15=.int .i64 0) (hs0:zad l0 0=.ptr (n+6) 0) (h3:zad l0 3=.nilsl)
 (he:∀ l g H s,zad l 3=s→LnAt H0 (w.nodes.flatMap (zbe w)) s H→Fr zsY l0 l→K (.exit 0,⟨⟨l,g⟩,H⟩)) :
 optW (erun T (.loop zsY) ⟨⟨l0,g0⟩,H0⟩) K:=by
 have hnl:=hok.nodes
 have hnm:=hok.node
 obtain ⟨vn,vl,h6,_,_⟩:=hV.obj
 obtain ⟨es,hL0,hM⟩:=hV.labels
 obtain ⟨es2,hN4,hM2⟩:=hV.names
 generalize w.nodes=N at hv h14 he hnl hnm
 have hfl:∀ i,i≤60→((N.take i).flatMap (zbe w)).length≤i * 61:=fun i hi=>by
  have:∀ (M:List (List UInt8)) ,(M.flatMap (zbe w)).length≤M.length * 61:=fun M=>by
   induction M with
   | nil=>simp
   | cons a M ih =>
    have:=hok.names (zaD a)
    simp only [List.flatMap_cons,List.length_append,List.length_cons,zbe,List.length_map] at ih ⊢
    omega
  have h1:=this (N.take i)
  have h2:(N.take i).length≤i:=by rw [List.length_take]; omega
  have h3:=Nat.mul_le_mul_right 61 h2
  omega
 refine zau (T:=T) (n:=N.length) (A:=GV) (fun _ s=>[(3,s)]) (fun i s _ H'=>LnAt H0 ((N.take i).flatMap (zbe w)) s H') (c:=16) (b:=0) (I:=15) (N:=14) (d:=56) rfl (by omega) (by decide) ⟨rfl,rfl⟩ (by simp) ?_ ?_ 0 .nilsl _ _ H0 (by omega) ⟨by simpa using App.nil,rfl,rfl,rfl,Nat.le_refl _⟩ (by simp [h3]) (.refl _ _ _) h15 h14
 ·intro i s l g H' hi hL hh hf hI
  have k13:=hf.get 13 rfl h13 (by simp [hv.boxy])
  have k0:=hf.get 0 rfl hs0 rfl
  simp only [zah,zaj,and_true] at hh
  obtain ⟨lt,ix,opt,get,⟨t,sv⟩,_,mem⟩:=zbX (e:=zaJ) hv hi (by omega)
  generalize N[i]'hi=key at opt get mem
  have hkey:=hnm key mem
  have hnx:(N.take (i+1)).flatMap (zbe w)=(N.take i).flatMap (zbe w)++zbe w key:=by rw [List.take_add_one,opt]; simp
  have hlen:((N.take i).flatMap (zbe w)).length≤10000:=by
   have:=hfl i (by omega)
   omega
  rw [hnx]
  generalize (N.take i).flatMap (zbe w)=M at hL hlen
  have hk:=zk0 key (by omega)
  have hn:=hM.at_ key hk
  have hk2:=zg6 (x:=zaD key) ⟨by simp; omega,by simp,by simp,by simp⟩ ⟨by simp,by simp⟩
  have hn2:=hM2.at_ (zaD key) hk2
  generalize hv1:(za5 es (zaJ key)).getD .nilsl=v1 at hn
  generalize hv2:(za5 es2 (elG (zaD key))).getD .nilsl=v2 at hn2
  obtain ⟨s1,H1,a1,e1,L1⟩:=hL.beside hbt [zfM,key] (w.labels key) v1 hn (by simp) (by have:=hok.labels key; omega)
  have hJ:=zkD s1 (zfM::key::w.labels key) e1 zmh (by have:=hok.labels key; simp; omega) (by rw [zdB]; exact zpi hok hkey) H1
  rw [zdB] at hJ
  change ecall T zkF [s1,.str ⟨#[32]⟩] H1=some (.str (mkB (zei w key)),H1) at hJ
  obtain ⟨s2,H2,a2,L2,o2⟩:=L1.step hbt (by omega) (zei w key)
  have su:=zac hL.app.elems
  have so:=hL.app.elems.ok
  have wu:=zac L2.app.elems
  have u1:=zac e1
  have q1:=e1.ok
  have nu:=hn.unb
  have no:=hn.ok
  have n2l:=hn2.len
  have n2u:=hn2.unb
  have n2o:=hn2.ok
  simp only [List.length_map] at n2l
  have hc0:(zaJ key).cells=[.str (mkB key)]:=rfl
  have m1:mkB zfM=(⟨#[110,111,100,101]⟩:ByteArray):=rfl
  rw [sv] at k13
  simp only [zaJ,List.map_cons,List.map_nil,m1] at a1 a2 hv1 hk
  have o6':=h6
  have o0':=hL0
  have o6:=h6
  have o4:=hN4
  rw [← hL.objs] at o6' o0'
  rw [← L2.objs] at o6 o4
  have hND:=fun H=>zdA key H
  simp only [elC,elG,zdN] at hk2 hv2 hND
  simp [k13,k0,hh,hI,ix,opt,get,hc0,zaK,zae,zak,su,so,o6',o0',hk,hv1,nu,no,a1,u1,q1,hJ,a2,wu,o2,o6,o4,hND,hk2,hv2,n2l,n2u,n2o]
  rw [zai,zai]
  refine zqy hok key hkey v2 hn2 (M++[zei w key]) (by simp; omega) _ _ H0 hV hbt s2 H2 L2 _ (by simp [n2u]) (by simp) (by simp) (by simp [k0]) (by simp) (by simp) ?_
  intro l2 g2 H3 s3 q3 L3 hf2
  have e3:M++[zei w key]++(w.names (zaD key)).map (zbV w key)=M++zbe w key:=by simp [zbe]
  rw [e3] at L3
  simp [q3,L3]
 ·intro s l g H' hL hh hf
  simp only [zah,zaj,and_true] at hh
  rw [List.take_length] at hL
  exact he l g H' s hh hL hf
theorem zn0 (x:Lk) (hx:x.f.length≤1048576∧x.t.length≤1048576∧x.y.length≤1048576) (g9:Nat) (v:GV) (hv:Elems 1 v ((w.names (zbr x)).map zaJ)) (D:List (List UInt8)) (hD:D.length≤100000) (l0:List GV) (g0:Nat) (H0:GH) (hV:VDone H0 n w links outs ins) (hbt:H0.bt≤H0.toks.length) (s0:GV) (H1:GH) (h0:LnAt H0 D s0 H1) (K:GExit × St→Prop)
 (h81:zad l0 81=v) (h82:zad l0 82=.int .i64 (w.names (zbr x)).length) (h83:zad l0 83=.int .i64 0) (hs0:zad l0 0=.ptr (n+6) 0) (h9:zad l0 9=.lbox g9 (lkC x)) (h3:zad l0 3=s0)
 (he:∀ l g H s,zad l 3=s→LnAt H0 (D++(w.names (zbr x)).map (zbl w x)) s H→Fr zsZ l0 l→K (.exit 6,⟨⟨l,g⟩,H⟩)) :
 optW (erun T (.loop zsZ) ⟨⟨l0,g0⟩,H1⟩) K:=by
 have hnl:=hok.names (zbr x)
 have hnm:=hok.name (zbr x)
 obtain ⟨x1,x2,x3⟩:=hx
 generalize w.names (zbr x)=N at hv h82 he hnl hnm
 refine zau (T:=T) (n:=N.length) (A:=GV) (fun _ s=>[(3,s),(9,.lbox g9 (lkC x))]) (fun i s _ H'=>LnAt H0 (D++(N.take i).map (zbl w x)) s H') (c:=84) (b:=6) (I:=83) (N:=82) (d:=108) rfl (by omega) (by decide) ⟨rfl,rfl⟩ (by simp) ?_ ?_ 0 s0 _ _ H1 (by omega) (by simpa using h0) (by simp [h3,h9]) (.refl _ _ _) h83 h82
 ·intro i s l g H' hi hL hh hf hI
  have k81:=hf.get 81 rfl h81 (by simp [hv.boxy])
  have k0:=hf.get 0 rfl hs0 rfl
  simp only [zah,zaj,and_true] at hh
  obtain ⟨k3,k9⟩:=hh
  obtain ⟨lt,ix,opt,get,⟨t,sv⟩,_,mem⟩:=zbX (e:=zaJ) hv hi (by omega)
  generalize N[i]'hi=e at opt get mem
  have hnx:D++(N.take (i+1)).map (zbl w x)=(D++(N.take i).map (zbl w x))++[zbl w x e]:=by rw [List.take_add_one,opt]; simp
  have hlen:(D++(N.take i).map (zbl w x)).length≤200000:=by rw [List.length_append,List.length_map,List.length_take]; omega
  rw [hnx]
  generalize D++(N.take i).map (zbl w x)=M at hL hlen
  have hkp:=zmj (hV.keep (fun j _ _=>by rw [hL.objs])) (hL.bts hbt) ⟨5,x.f,x.t,x.y,e⟩ (zg6 ⟨by simp; omega,by simp; omega,by simp; omega,by have:=hnm e mem; simp; omega⟩ ⟨by simp,by simp⟩) zhx [x.f,x.y,x.t,e] (by simp) (by have:=hok.values ⟨5,x.f,x.t,x.y,e⟩; omega) (hok.value _) (zml hok ⟨x1,x2,x3⟩ (hnm e mem))
  obtain ⟨s',H2,a1,L1,o1⟩:=hL.step hbt (by omega) (zbl w x e)
  have su:=zac hL.app.elems
  have so:=hL.app.elems.ok
  have wu:=zac L1.app.elems
  have m1:mkB zhx=(⟨#[116,114,97,105,116]⟩:ByteArray):=rfl
  simp only [elC,List.map_cons,List.map_nil,zaJ,List.cons_append,List.nil_append,m1] at hkp
  have hpl:zaE zhx (x.f::x.y::x.t::e::(w.values ⟨5,x.f,x.t,x.y,e⟩).map zc3)=zbl w x e:=rfl
  rw [hpl] at hkp
  have hc0:(zaJ e).cells=[.str (mkB e)]:=rfl
  have x0:∀ h,(lkC x)[0]'h=.str (mkB x.f):=fun _=>rfl
  have y0:∀ h,(lkC x)[1]'h=.str (mkB x.t):=fun _=>rfl
  have z0:∀ h,(lkC x)[2]'h=.str (mkB x.y):=fun _=>rfl
  have x0':(lkC x)[0]?=some (.str (mkB x.f)):=rfl
  have y0':(lkC x)[1]?=some (.str (mkB x.t)):=rfl
  have z0':(lkC x)[2]?=some (.str (mkB x.y)):=rfl
  rw [sv] at k81
  simp only [zaJ] at a1
  simp [k81,k0,k9,k3,hI,ix,opt,get,hc0,x0,y0,z0,x0',y0',z0',zaK,zae,zak,su,so,hkp,a1,wu,o1,L1]
 ·intro s l g H' hL hh hf
  simp only [zah,zaj,and_true] at hh
  rw [List.take_length] at hL
  exact he l g H' s hh.1 hL hf
theorem zqA (v:GV) (hv:Elems 3 v (links.map lkG)) (D:List (List UInt8)) (hD:D.length≤10000) (l0:List GV) (g0:Nat) (H0:GH) (hV:VDone H0 n w links outs ins) (hbt:H0.bt≤H0.toks.length) (s0:GV) (H1:GH) (h0:LnAt H0 D s0 H1) (K:GExit × St→Prop)
 (h58:zad l0 58=v) (h59:zad l0 59=.int .i64 links.length) (h60:zad l0 60=.int .i64 0) (hs0:zad l0 0=.ptr (n+6) 0) (h3:zad l0 3=s0)
 (he:∀ l g H s,zad l 3=s→LnAt H0 (D++links.flatMap (zbA w)) s H→Fr zs0 l0 l→K (.exit 4,⟨⟨l,g⟩,H⟩)) :
 optW (erun T (.loop zs0) ⟨⟨l0,g0⟩,H1⟩) K:=by
 have hnl:=hok.lcount
 have hnm:=hok.link
 obtain ⟨vn,vl,h6,_,_⟩:=hV.obj
 obtain ⟨es2,hN4,hM2⟩:=hV.names
 generalize hNN:links=N at hv h59 he hnl hnm
 have hfl:∀ i,i≤60→((N.take i).flatMap (zbA w)).length≤i * 61:=fun i hi=>by
  have:∀ (M:List Lk) ,(M.flatMap (zbA w)).length≤M.length * 61:=fun M=>by
   induction M with
   | nil=>simp
   | cons a M ih =>
    have:=hok.names (zbr a)
    simp only [List.flatMap_cons,List.length_append,List.length_cons,zbA,List.length_map] at ih ⊢
    omega
  have h1:=this (N.take i)
  have h2:(N.take i).length≤i:=by rw [List.length_take]; omega
  have h3:=Nat.mul_le_mul_right 61 h2
  omega
 refine zau (T:=T) (n:=N.length) (A:=GV) (fun _ s=>[(3,s)]) (fun i s _ H'=>LnAt H0 (D++(N.take i).flatMap (zbA w)) s H') (c:=61) (b:=4) (I:=60) (N:=59) (d:=109) rfl (by omega) (by decide) ⟨rfl,rfl⟩ (by simp) ?_ ?_ 0 s0 _ _ H1 (by omega) (by simpa using h0) (by simp [h3]) (.refl _ _ _) h60 h59
 ·intro i s l g H' hi hL hh hf hI
  have k58:=hf.get 58 rfl h58 (by simp [hv.boxy])
  have k0:=hf.get 0 rfl hs0 rfl
  simp only [zah,zaj,and_true] at hh
  obtain ⟨lt,ix,opt,get,⟨t,sv⟩,_,mem⟩:=zbX (e:=lkG) hv hi (by omega)
  generalize N[i]'hi=x at opt get mem
  have hx:=hnm x mem
  have hnx:D++(N.take (i+1)).flatMap (zbA w)=D++(N.take i).flatMap (zbA w)++zbA w x:=by rw [List.take_add_one,opt]; simp
  have hlen:(D++(N.take i).flatMap (zbA w)).length≤20000:=by
   have:=hfl i (by omega)
   rw [List.length_append]; omega
  rw [hnx]
  generalize D++(N.take i).flatMap (zbA w)=M at hL hlen
  have hk2:=zg6 (x:=zbr x) ⟨by have:=hx.1; simp; omega,by have:=hx.2.1; simp; omega,by have:=hx.2.2; simp; omega,by simp⟩ ⟨by simp,by simp⟩
  have hn2:=hM2.at_ (zbr x) hk2
  generalize hv2:(za5 es2 (elG (zbr x))).getD .nilsl=v2 at hn2
  have hJ:=zkD (.sl 1 ([zxA,x.f,x.y,x.t].map zaJ) .exact) [zxA,x.f,x.y,x.t] (.sl _ _) zmh (by simp) (by rw [zdB]; exact zxB hx) H'
  rw [zdB] at hJ
  have m1:mkB zxA=(⟨#[101,100,103,101]⟩:ByteArray):=rfl
  simp only [List.map_cons,List.map_nil,zaJ,m1] at hJ
  change ecall T zkF [_,.str ⟨#[32]⟩] H'=some (.str (mkB (zej x)),H') at hJ
  obtain ⟨s2,H2,a2,L2,o2⟩:=hL.step hbt (by omega) (zej x)
  have su:=zac hL.app.elems
  have so:=hL.app.elems.ok
  have wu:=zac L2.app.elems
  have n2l:=hn2.len
  have n2u:=hn2.unb
  have n2o:=hn2.ok
  simp only [List.length_map] at n2l
  have hlx:(lkC x).length=3:=rfl
  have htx:List.take 3 (lkC x)=lkC x:=rfl
  have hox:(lkC x).all GV.one=true:=rfl
  have hsx:zae [GV.str ⟨#[]⟩,.str ⟨#[]⟩,.str ⟨#[]⟩] 0 (lkC x)=some (lkC x):=rfl
  have x0:∀ h,(lkC x)[0]'h=.str (mkB x.f):=fun _=>rfl
  have y0:∀ h,(lkC x)[1]'h=.str (mkB x.t):=fun _=>rfl
  have z0:∀ h,(lkC x)[2]'h=.str (mkB x.y):=fun _=>rfl
  have x0':(lkC x)[0]?=some (.str (mkB x.f)):=rfl
  have y0':(lkC x)[1]?=some (.str (mkB x.t)):=rfl
  have z0':(lkC x)[2]?=some (.str (mkB x.y)):=rfl
  rw [sv] at k58
  simp only [zaJ] at a2
  have o6:=h6
  have o4:=hN4
  rw [← L2.objs] at o6 o4
  have hND:=fun H=>zj3 x H
  simp only [elC,elG,zdN] at hk2 hv2 hND
  simp [k58,k0,hh,hI,ix,opt,get,hlx,htx,hox,hsx,x0,y0,z0,x0',y0',z0',zaK,zae,zak,su,so,hJ,a2,wu,o2,o6,o4,hND,hk2,hv2,n2l,n2u,n2o]
  rw [zai,zai]
  refine zn0 hok x hx g v2 hn2 (M++[zej x]) (by simp; omega) _ _ H0 hV hbt s2 H2 L2 _ (by simp [n2u]) (by simp) (by simp) (by simp [k0]) (by simp) (by simp) ?_
  intro l2 g2 H3 s3 q3 L3 hf2
  have e3:M++[zej x]++(w.names (zbr x)).map (zbl w x)=M++zbA w x:=by simp [zbA]
  rw [e3] at L3
  simp [q3,L3]
 ·intro s l g H' hL hh hf
  simp only [zah,zaj,and_true] at hh
  rw [List.take_length] at hL
  exact he l g H' s hh hL hf
theorem zqB {H:GH} (hV:VDone H n w links outs ins):∃ v,ecall T zp3 [.ptr (n+6) 0] H=some (v,H)∧Elems 1 v ((zj9 w links).map zaJ):=by
 have hVo:VDone H.over n w links outs ins:=hV.keep fun _ _ _=>rfl
 obtain ⟨vn,c1,c2⟩:=zj5 hVo (by have:=hok.nodes; omega)
 have nl:=c2.len
 have nu:=zac c2
 have no:=c2.ok
 simp only [List.length_map] at nl
 have goal:optW (ecall T zp3 [.ptr (n+6) 0] H) fun r=>∃ v,r=(v,H)∧Elems 1 v ((zj9 w links).map zaJ):=by
  rw [zbd zE5 rfl (by simp [zs1]),zab]
  simp only [zs1,zB2]
  simp [c1,nl,nu,no]
  rw [zao,zai]
  refine zqz hok vn c2 _ _ H.over hVo (Nat.le_refl _) _ (by simp [nu]) (by simp) (by simp) (by simp) (by simp) ?_
  intro l g H1 s k3 hL hf
  have k0:=hf.get 0 rfl (v:=.ptr (n+6) 0) (by simp) rfl
  obtain ⟨ve,d1,d2⟩:=zqr (H:=H1) (hVo.keep fun j _ _=>by rw [hL.objs]) (by have:=hok.lcount; omega)
  have el:=d2.len
  have eu:=zac d2
  have eo:=d2.ok
  simp only [List.length_map] at el
  have hln:(w.nodes.flatMap (zbe w)).length≤10000:=by
   have:∀ (M:List (List UInt8)) ,(M.flatMap (zbe w)).length≤M.length * 61:=fun M=>by
    induction M with
    | nil=>simp
    | cons a M ih =>
     have:=hok.names (zaD a)
     simp only [List.flatMap_cons,List.length_append,List.length_cons,zbe,List.length_map] at ih ⊢
     omega
   have h1:=this w.nodes
   have h2:=Nat.mul_le_mul_right 61 hok.nodes
   omega
  simp [k0,d1,el,eu,eo]
  rw [zao,zai]
  refine zqA hok ve d2 _ hln _ _ H.over hVo (Nat.le_refl _) s H1 hL _ (by simp [eu]) (by simp) (by simp) (by simp [k0]) (by simp [k3]) ?_
  intro l2 g2 H2 s2 q3 L2 hf2
  have hE:=L2.app.elems
  obtain ⟨v2,f1,f2⟩:=zbG (a:=H.objs.length) (b:=H.toks.length) (n:=99) hE (fun x hx=>by obtain ⟨y,_,rfl⟩:=List.mem_map.1 hx; rfl)
  have su:=zac hE
  have so:=hE.ok
  simp [q3,su,so,f1]
  exact f2
 obtain ⟨r,hr,v,rfl,h2⟩:=goal
 exact ⟨v,hr,h2⟩
end
end Go.Proofs.YtchjbidfmhmmhaaGreatDoor
