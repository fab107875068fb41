/- Own work: the zaG machine and what it shows, part La. -/
import Derived.Test.YtchjbidfmhmmhaaGreatDoorSr
import Derived.Test.YtchjbidfmhmmhaaGreatDoorGz
import Derived.Lib.Join
set_option linter.all false
namespace Go.Proofs.YtchjbidfmhmmhaaGreatDoor
open Go.Sh
set_option maxHeartbeats 4000000
set_option maxRecDepth 100000
theorem zw6 {P:Vl→Prop} : ∀ (l out:List Vl),(∀ v∈out,P v)→(∀ v∈l,P v)→∀ v∈l.foldl znK out,P v
 | [],out,ho,_=>ho
 | x::l,out,ho,hl=>by
  rw [List.foldl_cons]
  refine zw6 l _ (fun v hv=>?_) fun v hv=>hl v (List.mem_cons_of_mem _ hv)
  unfold znK at hv
  split at hv
  ·exact ho v hv
  ·rcases insP_mem.1 hv with rfl | hv
   ·exact hl _ List.mem_cons_self
   ·exact ho v hv
def zmA (v:Vl):Prop:=v.t.length≤64∧-9223372036854775808≤v.n∧v.n≤9223372036854775807
theorem zk3 {R:List Evt} (h:Row R) (z:El):∀ v∈zbR R z,zmA v:=by
 intro v hv
 unfold zbR at hv
 split at hv
 ·cases hv
 ·rename_i hc
  simp only [Bool.or_eq_true,decide_eq_true_eq,not_or] at hc
  refine zw6 (P:=zmA) _ [] (by simp) (fun x hx=>?_) v hv
  obtain ⟨e,he,rfl⟩:=List.mem_map.1 hx
  obtain ⟨h1,h2⟩:=List.mem_filter.1 he
  simp only [zgm,Bool.and_eq_true,decide_eq_true_eq] at h2
  obtain ⟨⟨rfl,hop⟩,_⟩:=h2
  have hev:=((zdB rfl h.causl).2 e h1).1
  simp only [evB,Bool.and_eq_true] at hev
  have hm:=hev.2
  unfold zky at hm
  simp only [Bool.and_eq_true] at hm
  have hm2:=hm.2
  have hfit:=h.fit e h1
  rcases hop with ho | ho
  ·rw [ho] at hm2
   simp only [true_or,if_true,Bool.and_eq_true,decide_eq_true_eq] at hm2
   exact absurd hm2.2 hc.1
  ·rw [ho] at hm2
   have h31:¬ ((3:Int)=1∨(3:Int)=2):=by omega
   simp only [h31,if_false,if_true,Bool.and_eq_true,decide_eq_true_eq] at hm2
   obtain ⟨_,hk,hr⟩:=hm2
   refine ⟨?_,hfit.n1,hfit.n2⟩
   unfold zdV at hr
   rw [if_neg (by omega)] at hr
   split at hr
   ·simp at hr; simp [zus,hr.2]
   ·split at hr
    ·simp at hr; simp [zus,hr.2.2]
    ·rw [if_pos (by omega)] at hr
     simp [zjC] at hr
     simp only [zus]; omega
theorem zAy (v:Vl):(vlC v).length=3:=rfl
theorem zxR (v:Vl):List.take 3 (vlC v)=vlC v:=rfl
theorem zAz (v:Vl):(vlC v).all GV.one=true:=rfl
theorem zAA (v:Vl):zae [GV.int .i64 0,.int .i64 0,.str ⟨#[]⟩] 0 (vlC v)=some (vlC v):=rfl
def zg5 (v:Vl):List UInt8:=zzs v.k v.n v.t
theorem zj1 (v:Vl) (h:zmA v) (H:GH):ecall T zq3 [.agg (vlC v)] H=some (.str (mkB (zg5 v)),H):=by
 have:=zlX v.k v.n (mkB v.t) (by rw [zho]; have:=h.1; omega) h.2.1 h.2.2 H
 rw [zbE] at this
 exact this
abbrev zo4:List UInt8:=[32]
def zdZ (w:List UInt8) (ws:List (List UInt8)):List UInt8:=w++Lib.joinTail zo4 ws
theorem zde (w:List UInt8) (ws:List (List UInt8)):Lib.join (w::ws) zo4=zdZ w ws:=Lib.join_cons w ws zo4
theorem zhf (w:List UInt8) (M:Nat):∀ (ws:List (List UInt8)),(∀ x∈ws,x.length≤M)→(zdZ w ws).length≤w.length+ws.length * (M+1)
 | [],_=>by simp [zdZ,Lib.joinTail]
 | x::ws,h=>by
  have h1:=zhf w M ws fun y hy=>h y (List.mem_cons_of_mem _ hy)
  have h2:=h x List.mem_cons_self
  have h3:(zdZ w (x::ws)).length=(zdZ w ws).length+1+x.length:=by
   simp [zdZ,Lib.joinTail]; omega
  rw [h3,List.length_cons,Nat.succ_mul]; omega
theorem zr4 (vs:List Vl) (hl:vs.length≤1000) (hb:∀ v∈vs,zmA v) (v:GV) (hv:Elems 3 v (vs.map vlG)) (ws:List (List UInt8)) (hw:ws.length≤1000) (l0:List GV) (g0:Nat) (H0:GH) (hbt:H0.bt≤H0.toks.length) (s0:GV) (ha0:App H0 1 s0 (ws.map za2)) (K:GExit × St→Prop)
 (h14:zag l0 14=v) (h15:zag l0 15=.int .i64 vs.length) (h16:zag l0 16=.int .i64 0) (h1:zag l0 1=s0)
 (he:∀ l g H s,zag l 1=s→Elems 1 s ((ws++vs.map zg5).map za2)→K (.exit 0,⟨⟨l,g⟩,H⟩)) :
 optW (erun T (.loop zw4) ⟨⟨l0,g0⟩,H0⟩) K:=by
 refine za5 (T:=T) (n:=vs.length) (A:=GV) (fun _ s=>[(1,s)]) (fun i s _ H'=>App H' 1 s ((ws++(vs.take i).map zg5).map za2)∧H'.bt≤H'.toks.length) (c:=17) (b:=0) (I:=16) (N:=15) (d:=25) rfl (by omega) (by decide) ⟨rfl,rfl⟩ (by simp) ?_ ?_ 0 s0 _ _ H0 (by omega) ⟨by simpa using ha0,hbt⟩ (by simp [h1]) (.refl _ _ _) h16 h15
 ·intro i s l g H' hi ⟨ha,hbt'⟩ hh hf hI
  have k14:=hf.get 14 rfl h14 (by simp [hv.boxy])
  simp only [zaB,zaM,and_true] at hh
  obtain ⟨lt,ix,opt,get,⟨t,sv⟩,_,mem⟩:=zeU (e:=vlG) hv hi (by omega)
  generalize vs[i]'hi=e at opt get mem
  have htake:vs.take (i+1)=vs.take i++[e]:=by rw [List.take_add_one,opt]; rfl
  have hlen:(ws++(vs.take i).map zg5).length≤2000:=by rw [List.length_append,List.length_map,List.length_take]; omega
  have hnx:ws++(vs.take (i+1)).map zg5=(ws++(vs.take i).map zg5)++[zg5 e]:=by rw [htake]; simp
  rw [hnx]
  generalize ws++(vs.take i).map zg5=M at ha hlen
  obtain ⟨w',H2,a1,G1⟩:=zbL (ty:=9) (bytes:=16) (ys:=[za2 (zg5 e)]) (x:=.sl 1 [za2 (zg5 e)] .exact) ha (by simp [zbK]) hbt' (by simp only [List.length_singleton,List.length_map,room]; omega) (by simp only [List.length_singleton,List.length_map,maxLen]; omega)
  have hS:=fun H=>zj1 e (hb e mem) H
  have su:=zaf ha.elems
  have so:=ha.elems.ok
  have wu:=zaf G1.app.elems
  have wo:=G1.ok
  rw [sv] at k14
  simp only [za2] at a1
  simp [k14,hh,hI,ix,opt,get,zAy,zxR,zAz,zAA,hS,su,so,zaj,a1,wu,wo]
  refine fun _=>⟨by simpa using G1.app, ?_⟩
  exact G1.step.btle hbt'
 ·intro s l g H' ⟨ha,_⟩ hh hf
  simp only [zaB,zaM,and_true] at hh
  rw [List.take_length] at ha
  exact he l g H' s hh ha.elems
theorem zk4 {H:GH} {n:Nat} {w:Vw} {links:List Lk} {outs ins:List UInt8→List Lk} (hV:VDone H n w links outs ins) (hbt:H.bt≤H.toks.length) (x:El) (hk:zaA true kLs (elG x)=true) (w0:List UInt8) (ws:List (List UInt8)) (hw:ws.length≤900) (hl:(w.values x).length≤1000) (hb:∀ v∈w.values x,zmA v)
 (hj:(zdZ w0 (ws++(w.values x).map zg5)).length≤100000000) :
 ecall T zqW [.ptr (n+6) 0,.sl 1 ((w0::ws).map za2) .exact,.agg (elC x)] H=some (.str (mkB (zdZ w0 (ws++(w.values x).map zg5))),H):=by
 obtain ⟨vn,vl,h6,_,_⟩:=hV.obj
 obtain ⟨es,h3,hM⟩:=hV.values
 have hn:=hM.at_ x hk
 generalize hv:(zaX es (elG x)).getD .nilsl=v0 at hn
 have hlx:(elC x).length=5:=rfl
 have htx:List.take 5 (elC x)=elC x:=rfl
 have hcl:∀ s,zaI H.objs.length H.toks.length 100 (.str s)=some (.str s):=fun _=>rfl
 have nl:=hn.len
 have nu:=hn.unb
 have no:=hn.ok
 simp only [List.length_map] at nl
 apply optW.eq
 rw [zci zCT rfl (by simp [zrz]),zab]
 simp only [zrz,zz2]
 simp [h6,h3,hk,hv,hlx,htx,nl,nu,no]
 rw [zay,zar]
 refine zr4 (w.values x) hl hb v0 hn (w0::ws) (by simp; omega) _ _ H.over (Nat.le_refl _) (.sl 1 ((w0::ws).map za2) .exact) (.exact _) _ (by simp [nu]) (by simp) (by simp) (by simp) ?_
 intro l g H1 s k1 hs
 have hJ:=zjG s (w0::(ws++(w.values x).map zg5)) (by simpa using hs) zo4 (by simp; omega) (by rw [zde]; exact hj) H1
 rw [zde] at hJ
 have su:=zaf hs
 have so:=hs.ok
 change ecall T zjJ [s,.str ⟨#[32]⟩] H1=_ at hJ
 simp [k1,su,so,hJ,hcl]
abbrev zo5:List UInt8:=[110,111,100,101]
abbrev zo6:List UInt8:=[112,114,111,112]
abbrev zvu:List UInt8:=[101,100,103,101]
abbrev zjb:List UInt8:=[116,114,97,105,116]
def zhD (w:Vw) (key:List UInt8):List UInt8:=zdZ zo5 (key::w.labels key)
def zdf (w:Vw) (key nm:List UInt8):List UInt8:=zdZ zo6 ([key,nm]++(w.values ⟨4,key,[],[],nm⟩).map zg5)
def zgN (x:Lk):List UInt8:=zdZ zvu [x.f,x.y,x.t]
def zcn (w:Vw) (x:Lk) (nm:List UInt8):List UInt8:=zdZ zjb ([x.f,x.y,x.t,nm]++(w.values ⟨5,x.f,x.t,x.y,nm⟩).map zg5)
def zb7 (w:Vw) (key:List UInt8):List (List UInt8):=zhD w key::(w.names (zaw key)).map (zdf w key)
def zcy (w:Vw) (x:Lk):List (List UInt8):=zgN x::(w.names (zcl x)).map (zcn w x)
def zhE (w:Vw) (links:List Lk):List (List UInt8):=w.nodes.flatMap (zb7 w)++links.flatMap (zcy w)
structure VwOk (w:Vw) (links:List Lk):Prop where
 nodes:w.nodes.length≤60
 node:∀ k∈w.nodes,k.length≤1048576
 labels:∀ k,(w.labels k).length≤60
 label:∀ k,∀ l∈w.labels k,l.length≤1048576
 names:∀ o,(w.names o).length≤60
 name:∀ o,∀ l∈w.names o,l.length≤1048576
 values:∀ z,(w.values z).length≤60
 value:∀ z,∀ v∈w.values z,zmA v
 lcount:links.length≤60
 link:∀ x∈links,x.f.length≤1048576∧x.t.length≤1048576∧x.y.length≤1048576
theorem zr5 {v:Vl} (h:zmA v):(zg5 v).length≤1048576:=by
 obtain ⟨h1,_,_⟩:=h
 unfold zg5 zzs
 cases hr:zdV v.k v.n v.t with
 | false=>simp
 | true =>
  obtain ⟨k,n,t⟩:=v
  simp only at hr h1 ⊢
  rcases ziv hr with ⟨rfl,h2,h3⟩ | ⟨rfl,h2,h3⟩ | ⟨rfl,h2,h3⟩ | ⟨rfl,q1,h2,h3⟩ | ⟨rfl,h2⟩ | ⟨rfl,h2⟩ | ⟨rfl,h2⟩
  ·simp [znz]
  ·subst h2; simp [znz]
  ·subst h2; simp [znz]
  ·have:=zkt n q1 h2
   simp [znz]; omega
  ·have:=ztT t
   simp [znz]; omega
  ·simp [znz]; omega
  ·simp [znz]; omega
theorem zvv {w:Vw} {links:List Lk} (h:VwOk w links) {key nm:List UInt8} (hk:key.length≤1048576) (hn:nm.length≤1048576):(zdf w key nm).length≤100000000:=by
 have h1:=zhf zo6 1048576 ([key,nm]++(w.values ⟨4,key,[],[],nm⟩).map zg5) (fun x hx=>by
  rcases List.mem_append.1 hx with hx | hx
  ·simp only [List.mem_cons,List.not_mem_nil,or_false] at hx
   rcases hx with rfl | rfl <;> assumption
  ·obtain ⟨v,hv,rfl⟩:=List.mem_map.1 hx
   exact zr5 (h.value _ v hv))
 have h2:=h.values ⟨4,key,[],[],nm⟩
 have h3:([key,nm]++(w.values ⟨4,key,[],[],nm⟩).map zg5).length≤62:=by simp; omega
 have h4:=Nat.mul_le_mul_right (1048576+1) h3
 unfold zdf
 simp only [List.length_cons,List.length_nil] at h1
 omega
theorem zr6 {w:Vw} {links:List Lk} (h:VwOk w links) {x:Lk} (hx:x.f.length≤1048576∧x.t.length≤1048576∧x.y.length≤1048576) {nm:List UInt8} (hn:nm.length≤1048576):(zcn w x nm).length≤100000000:=by
 obtain ⟨x1,x2,x3⟩:=hx
 have h1:=zhf zjb 1048576 ([x.f,x.y,x.t,nm]++(w.values ⟨5,x.f,x.t,x.y,nm⟩).map zg5) (fun x hx=>by
  rcases List.mem_append.1 hx with hx | hx
  ·simp only [List.mem_cons,List.not_mem_nil,or_false] at hx
   rcases hx with rfl | rfl | rfl | rfl <;> assumption
  ·obtain ⟨v,hv,rfl⟩:=List.mem_map.1 hx
   exact zr5 (h.value _ v hv))
 have h2:=h.values ⟨5,x.f,x.t,x.y,nm⟩
 have h3:([x.f,x.y,x.t,nm]++(w.values ⟨5,x.f,x.t,x.y,nm⟩).map zg5).length≤64:=by simp; omega
 have h4:=Nat.mul_le_mul_right (1048576+1) h3
 unfold zcn
 simp only [List.length_cons,List.length_nil] at h1
 omega
theorem zvw {w:Vw} {links:List Lk} (h:VwOk w links) {key:List UInt8} (hk:key.length≤1048576):(zhD w key).length≤100000000:=by
 have h1:=zhf zo5 1048576 (key::w.labels key) (fun x hx=>by
  rcases List.mem_cons.1 hx with rfl | hx
  ·exact hk
  ·exact h.label _ x hx)
 have h2:=h.labels key
 have h3:(key::w.labels key).length≤61:=by simp; omega
 have h4:=Nat.mul_le_mul_right (1048576+1) h3
 unfold zhD
 simp only [List.length_cons,List.length_nil] at h1 h4
 omega
theorem zvx {x:Lk} (hx:x.f.length≤1048576∧x.t.length≤1048576∧x.y.length≤1048576):(zgN x).length≤100000000:=by
 obtain ⟨x1,x2,x3⟩:=hx
 simp [zgN,zdZ,Lib.joinTail]; omega
structure LnAt (H0:GH) (L:List (List UInt8)) (s:GV) (H:GH):Prop where
 app:App H 1 s (L.map za2)
 objs:H.objs=H0.objs
 bo:H.bo=H0.bo
 bt:H.bt=H0.bt
 toks:H0.toks.length≤H.toks.length
theorem LnAt.step {H0 H:GH} {L:List (List UInt8)} {s:GV} (h:LnAt H0 L s H) (hbt:H0.bt≤H0.toks.length) (hl:L.length≤1000000) (x:List UInt8) :
 ∃ s' H',zaU H 9 1 16 s (.sl 1 [za2 x] .exact)=some (s',H')∧LnAt H0 (L++[x]) s' H'∧s'.ok=true:=by
 obtain ⟨s',H',a1,G1⟩:=zbL (ty:=9) (bytes:=16) (ys:=[za2 x]) (x:=.sl 1 [za2 x] .exact) h.app (by simp [zbK]) (by rw [h.bt]; exact Nat.le_trans hbt h.toks) (by simp only [List.length_singleton,List.length_map,room]; omega) (by simp only [List.length_singleton,List.length_map,maxLen]; omega)
 exact ⟨s',H',a1,⟨by simpa using G1.app,G1.step.objs.trans h.objs,G1.step.bo.trans h.bo,G1.step.bt.trans h.bt,Nat.le_trans h.toks G1.step.len⟩,G1.ok⟩
theorem LnAt.bts {H0 H:GH} {L:List (List UInt8)} {s:GV} (h:LnAt H0 L s H) (hbt:H0.bt≤H0.toks.length):H.bt≤H.toks.length:=by
 rw [h.bt]; exact Nat.le_trans hbt h.toks
section
variable {n:Nat} {w:Vw} {links:List Lk} {outs ins:List UInt8→List Lk} (hok:VwOk w links)
include hok
theorem zo7 (key:List UInt8) (hkey:key.length≤1048576) (v:GV) (hv:Elems 1 v ((w.names (zaw key)).map za2)) (D:List (List UInt8)) (hD:D.length≤100000) (l0:List GV) (g0:Nat) (H0:GH) (hV:VDone H0 n w links outs ins) (hbt:H0.bt≤H0.toks.length) (s0:GV) (H1:GH) (h0:LnAt H0 D s0 H1) (K:GExit × St→Prop)
 (h38:zag l0 38=v) (h39:zag l0 39=.int .i64 (w.names (zaw key)).length) (h40:zag l0 40=.int .i64 0) (hs0:zag l0 0=.ptr (n+6) 0) (h5:zag l0 5=.str (mkB key)) (h3:zag l0 3=s0)
 (he:∀ l g H s,zag l 3=s→LnAt H0 (D++(w.names (zaw key)).map (zdf w key)) s H→Fr zrk l0 l→K (.exit 2,⟨⟨l,g⟩,H⟩)) :
 optW (erun T (.loop zrk) ⟨⟨l0,g0⟩,H1⟩) K:=by
 have hnl:=hok.names (zaw key)
 have hnm:=hok.name (zaw key)
 generalize w.names (zaw key)=N at hv h39 he hnl hnm
 refine za5 (T:=T) (n:=N.length) (A:=GV) (fun _ s=>[(3,s)]) (fun i s _ H'=>LnAt H0 (D++(N.take i).map (zdf w key)) s H') (c:=41) (b:=2) (I:=40) (N:=39) (d:=55) rfl (by omega) (by decide) ⟨rfl,rfl⟩ (by simp) ?_ ?_ 0 s0 _ _ H1 (by omega) (by simpa using h0) (by simp [h3]) (.refl _ _ _) h40 h39
 ·intro i s l g H' hi hL hh hf hI
  have k38:=hf.get 38 rfl h38 (by simp [hv.boxy])
  have k0:=hf.get 0 rfl hs0 rfl
  have k5:=hf.get 5 rfl h5 rfl
  simp only [zaB,zaM,and_true] at hh
  obtain ⟨lt,ix,opt,get,⟨t,sv⟩,_,mem⟩:=zeU (e:=za2) hv hi (by omega)
  generalize N[i]'hi=e at opt get mem
  have hnx:D++(N.take (i+1)).map (zdf w key)=(D++(N.take i).map (zdf w key))++[zdf w key e]:=by rw [List.take_add_one,opt]; simp
  have hlen:(D++(N.take i).map (zdf w key)).length≤200000:=by rw [List.length_append,List.length_map,List.length_take]; omega
  rw [hnx]
  generalize D++(N.take i).map (zdf w key)=M at hL hlen
  have hkp:=zk4 (hV.keep (fun j _ _=>by rw [hL.objs])) (hL.bts hbt) ⟨4,key,[],[],e⟩ (zgo ⟨by simp; omega,by simp,by simp,by have:=hnm e mem; simp; omega⟩ ⟨by simp,by simp⟩) zo6 [key,e] (by simp) (by have:=hok.values ⟨4,key,[],[],e⟩; omega) (hok.value _) (zvv hok hkey (hnm e mem))
  obtain ⟨s',H2,a1,L1,o1⟩:=hL.step hbt (by omega) (zdf w key e)
  have su:=zaf hL.app.elems
  have so:=hL.app.elems.ok
  have wu:=zaf L1.app.elems
  have m1:mkB zo6=(⟨#[112,114,111,112]⟩:ByteArray):=rfl
  simp only [elC,zf5,List.map_cons,List.map_nil,za2,List.cons_append,List.nil_append,m1] at hkp
  have hpl:zdZ zo6 (key::e::(w.values ⟨4,key,[],[],e⟩).map zg5)=zdf w key e:=rfl
  rw [hpl] at hkp
  have hc0:(za2 e).cells=[.str (mkB e)]:=rfl
  rw [sv] at k38
  simp only [za2] at a1
  simp [k38,k0,k5,hh,hI,ix,opt,get,hc0,za6,zae,zaj,su,so,hkp,a1,wu,o1,L1]
 ·intro s l g H' hL hh hf
  simp only [zaB,zaM,and_true] at hh
  rw [List.take_length] at hL
  exact he l g H' s hh hL hf
end
theorem LnAt.beside {H0 H:GH} {L:List (List UInt8)} {s:GV} (h:LnAt H0 L s H) (hbt:H0.bt≤H0.toks.length) (ys zs:List (List UInt8)) (v:GV) (hv:Elems 1 v (zs.map za2)) (h1:ys.length≤1000) (h2:zs.length≤1000) :
 ∃ s' H',zaU H 9 1 16 (.sl 1 (ys.map za2) .exact) v=some (s',H')∧Elems 1 s' ((ys++zs).map za2)∧LnAt H0 L s H':=by
 have ha:Ap (fun t=>if zen s=some t then some (0:Nat) else none) 0 H 1 s (L.map za2):=⟨h.app,fun t ht=>by simp [ht]⟩
 have hb:Ap (fun t=>if zen s=some t then some (0:Nat) else none) 1 H 1 (.sl 1 (ys.map za2) .exact) (ys.map za2):=⟨.exact _,fun t ht=>by simp [zen] at ht⟩
 obtain ⟨s',H',a1,a2,⟨a3,a4,a5,a6⟩,own',b1,b2⟩:=zrT (ty:=9) (bytes:=16) hb hv.news (h.bts hbt) (by simp only [List.length_map,room]; omega) (by simp only [List.length_map,maxLen]; omega)
 refine ⟨s',H',a1,by simpa using b1.elems,(b2 0 (by decide) _ _ _ ha).1,a3.trans h.objs,a4.trans h.bo,a5.trans h.bt,Nat.le_trans h.toks a6⟩
section
variable {n:Nat} {w:Vw} {links:List Lk} {outs ins:List UInt8→List Lk} (hok:VwOk w links)
include hok
theorem zo8 (v:GV) (hv:Elems 1 v (w.nodes.map za2)) (l0:List GV) (g0:Nat) (H0:GH) (hV:VDone H0 n w links outs ins) (hbt:H0.bt≤H0.toks.length) (K:GExit × St→Prop)
 (h13:zag l0 13=v) (h14:zag l0 14=.int .i64 w.nodes.length) (h15:zag l0 15=.int .i64 0) (hs0:zag l0 0=.ptr (n+6) 0) (h3:zag l0 3=.nilsl)
 (he:∀ l g H s,zag l 3=s→LnAt H0 (w.nodes.flatMap (zb7 w)) s H→Fr zrl l0 l→K (.exit 0,⟨⟨l,g⟩,H⟩)) :
 optW (erun T (.loop zrl) ⟨⟨l0,g0⟩,H0⟩) K:=by
 have hnl:=hok.nodes
 have hnm:=hok.node
 obtain ⟨vn,vl,h6,_,_⟩:=hV.obj
 obtain ⟨es,hL0,hM⟩:=hV.labels
 obtain ⟨es2,hN4,hM2⟩:=hV.names
 generalize w.nodes=N at hv h14 he hnl hnm
 have hfl:∀ i,i≤60→((N.take i).flatMap (zb7 w)).length≤i * 61:=fun i hi=>by
  have:∀ (M:List (List UInt8)) ,(M.flatMap (zb7 w)).length≤M.length * 61:=fun M=>by
   induction M with
   | nil=>simp
   | cons a M ih =>
    have:=hok.names (zaw a)
    simp only [List.flatMap_cons,List.length_append,List.length_cons,zb7,List.length_map] at ih ⊢
    omega
  have h1:=this (N.take i)
  have h2:(N.take i).length≤i:=by rw [List.length_take]; omega
  have h3:=Nat.mul_le_mul_right 61 h2
  omega
 refine za5 (T:=T) (n:=N.length) (A:=GV) (fun _ s=>[(3,s)]) (fun i s _ H'=>LnAt H0 ((N.take i).flatMap (zb7 w)) s H') (c:=16) (b:=0) (I:=15) (N:=14) (d:=56) rfl (by omega) (by decide) ⟨rfl,rfl⟩ (by simp) ?_ ?_ 0 .nilsl _ _ H0 (by omega) ⟨by simpa using App.nil,rfl,rfl,rfl,Nat.le_refl _⟩ (by simp [h3]) (.refl _ _ _) h15 h14
 ·intro i s l g H' hi hL hh hf hI
  have k13:=hf.get 13 rfl h13 (by simp [hv.boxy])
  have k0:=hf.get 0 rfl hs0 rfl
  simp only [zaB,zaM,and_true] at hh
  obtain ⟨lt,ix,opt,get,⟨t,sv⟩,_,mem⟩:=zeU (e:=za2) hv hi (by omega)
  generalize N[i]'hi=key at opt get mem
  have hkey:=hnm key mem
  have hnx:(N.take (i+1)).flatMap (zb7 w)=(N.take i).flatMap (zb7 w)++zb7 w key:=by rw [List.take_add_one,opt]; simp
  have hlen:((N.take i).flatMap (zb7 w)).length≤10000:=by
   have:=hfl i (by omega)
   omega
  rw [hnx]
  generalize (N.take i).flatMap (zb7 w)=M at hL hlen
  have hk:=zhA key (by omega)
  have hn:=hM.at_ key hk
  have hk2:=zgo (x:=zaw key) ⟨by simp; omega,by simp,by simp,by simp⟩ ⟨by simp,by simp⟩
  have hn2:=hM2.at_ (zaw key) hk2
  generalize hv1:(zaX es (za2 key)).getD .nilsl=v1 at hn
  generalize hv2:(zaX es2 (elG (zaw key))).getD .nilsl=v2 at hn2
  obtain ⟨s1,H1,a1,e1,L1⟩:=hL.beside hbt [zo5,key] (w.labels key) v1 hn (by simp) (by have:=hok.labels key; omega)
  have hJ:=zjG s1 (zo5::key::w.labels key) e1 zo4 (by have:=hok.labels key; simp; omega) (by rw [zde]; exact zvw hok hkey) H1
  rw [zde] at hJ
  change ecall T zjJ [s1,.str ⟨#[32]⟩] H1=some (.str (mkB (zhD w key)),H1) at hJ
  obtain ⟨s2,H2,a2,L2,o2⟩:=L1.step hbt (by omega) (zhD w key)
  have su:=zaf hL.app.elems
  have so:=hL.app.elems.ok
  have wu:=zaf L2.app.elems
  have u1:=zaf e1
  have q1:=e1.ok
  have nu:=hn.unb
  have no:=hn.ok
  have n2l:=hn2.len
  have n2u:=hn2.unb
  have n2o:=hn2.ok
  simp only [List.length_map] at n2l
  have hc0:(za2 key).cells=[.str (mkB key)]:=rfl
  have m1:mkB zo5=(⟨#[110,111,100,101]⟩:ByteArray):=rfl
  rw [sv] at k13
  simp only [za2,List.map_cons,List.map_nil,m1] at a1 a2 hv1 hk
  have o6':=h6
  have o0':=hL0
  have o6:=h6
  have o4:=hN4
  rw [← hL.objs] at o6' o0'
  rw [← L2.objs] at o6 o4
  have hND:=fun H=>zcX key H
  simp only [elC,elG,zf5] at hk2 hv2 hND
  simp [k13,k0,hh,hI,ix,opt,get,hc0,za6,zae,zaj,su,so,o6',o0',hk,hv1,nu,no,a1,u1,q1,hJ,a2,wu,o2,o6,o4,hND,hk2,hv2,n2l,n2u,n2o]
  rw [zar,zar]
  refine zo7 hok key hkey v2 hn2 (M++[zhD w key]) (by simp; omega) _ _ H0 hV hbt s2 H2 L2 _ (by simp [n2u]) (by simp) (by simp) (by simp [k0]) (by simp) (by simp) ?_
  intro l2 g2 H3 s3 q3 L3 hf2
  have e3:M++[zhD w key]++(w.names (zaw key)).map (zdf w key)=M++zb7 w key:=by simp [zb7]
  rw [e3] at L3
  simp [q3,L3]
 ·intro s l g H' hL hh hf
  simp only [zaB,zaM,and_true] at hh
  rw [List.take_length] at hL
  exact he l g H' s hh hL hf
theorem zmB (x:Lk) (hx:x.f.length≤1048576∧x.t.length≤1048576∧x.y.length≤1048576) (g9:Nat) (v:GV) (hv:Elems 1 v ((w.names (zcl x)).map za2)) (D:List (List UInt8)) (hD:D.length≤100000) (l0:List GV) (g0:Nat) (H0:GH) (hV:VDone H0 n w links outs ins) (hbt:H0.bt≤H0.toks.length) (s0:GV) (H1:GH) (h0:LnAt H0 D s0 H1) (K:GExit × St→Prop)
 (h81:zag l0 81=v) (h82:zag l0 82=.int .i64 (w.names (zcl x)).length) (h83:zag l0 83=.int .i64 0) (hs0:zag l0 0=.ptr (n+6) 0) (h9:zag l0 9=.lbox g9 (lkC x)) (h3:zag l0 3=s0)
 (he:∀ l g H s,zag l 3=s→LnAt H0 (D++(w.names (zcl x)).map (zcn w x)) s H→Fr zrm l0 l→K (.exit 6,⟨⟨l,g⟩,H⟩)) :
 optW (erun T (.loop zrm) ⟨⟨l0,g0⟩,H1⟩) K:=by
 have hnl:=hok.names (zcl x)
 have hnm:=hok.name (zcl x)
 obtain ⟨x1,x2,x3⟩:=hx
 generalize w.names (zcl x)=N at hv h82 he hnl hnm
 refine za5 (T:=T) (n:=N.length) (A:=GV) (fun _ s=>[(3,s),(9,.lbox g9 (lkC x))]) (fun i s _ H'=>LnAt H0 (D++(N.take i).map (zcn w x)) s H') (c:=84) (b:=6) (I:=83) (N:=82) (d:=108) rfl (by omega) (by decide) ⟨rfl,rfl⟩ (by simp) ?_ ?_ 0 s0 _ _ H1 (by omega) (by simpa using h0) (by simp [h3,h9]) (.refl _ _ _) h83 h82
 ·intro i s l g H' hi hL hh hf hI
  have k81:=hf.get 81 rfl h81 (by simp [hv.boxy])
  have k0:=hf.get 0 rfl hs0 rfl
  simp only [zaB,zaM,and_true] at hh
  obtain ⟨k3,k9⟩:=hh
  obtain ⟨lt,ix,opt,get,⟨t,sv⟩,_,mem⟩:=zeU (e:=za2) hv hi (by omega)
  generalize N[i]'hi=e at opt get mem
  have hnx:D++(N.take (i+1)).map (zcn w x)=(D++(N.take i).map (zcn w x))++[zcn w x e]:=by rw [List.take_add_one,opt]; simp
  have hlen:(D++(N.take i).map (zcn w x)).length≤200000:=by rw [List.length_append,List.length_map,List.length_take]; omega
  rw [hnx]
  generalize D++(N.take i).map (zcn w x)=M at hL hlen
  have hkp:=zk4 (hV.keep (fun j _ _=>by rw [hL.objs])) (hL.bts hbt) ⟨5,x.f,x.t,x.y,e⟩ (zgo ⟨by simp; omega,by simp; omega,by simp; omega,by have:=hnm e mem; simp; omega⟩ ⟨by simp,by simp⟩) zjb [x.f,x.y,x.t,e] (by simp) (by have:=hok.values ⟨5,x.f,x.t,x.y,e⟩; omega) (hok.value _) (zr6 hok ⟨x1,x2,x3⟩ (hnm e mem))
  obtain ⟨s',H2,a1,L1,o1⟩:=hL.step hbt (by omega) (zcn w x e)
  have su:=zaf hL.app.elems
  have so:=hL.app.elems.ok
  have wu:=zaf L1.app.elems
  have m1:mkB zjb=(⟨#[116,114,97,105,116]⟩:ByteArray):=rfl
  simp only [elC,List.map_cons,List.map_nil,za2,List.cons_append,List.nil_append,m1] at hkp
  have hpl:zdZ zjb (x.f::x.y::x.t::e::(w.values ⟨5,x.f,x.t,x.y,e⟩).map zg5)=zcn w x e:=rfl
  rw [hpl] at hkp
  have hc0:(za2 e).cells=[.str (mkB e)]:=rfl
  have x0:∀ h,(lkC x)[0]'h=.str (mkB x.f):=fun _=>rfl
  have y0:∀ h,(lkC x)[1]'h=.str (mkB x.t):=fun _=>rfl
  have z0:∀ h,(lkC x)[2]'h=.str (mkB x.y):=fun _=>rfl
  have x0':(lkC x)[0]?=some (.str (mkB x.f)):=rfl
  have y0':(lkC x)[1]?=some (.str (mkB x.t)):=rfl
  have z0':(lkC x)[2]?=some (.str (mkB x.y)):=rfl
  rw [sv] at k81
  simp only [za2] at a1
  simp [k81,k0,k9,k3,hI,ix,opt,get,hc0,x0,y0,z0,x0',y0',z0',za6,zae,zaj,su,so,hkp,a1,wu,o1,L1]
 ·intro s l g H' hL hh hf
  simp only [zaB,zaM,and_true] at hh
  rw [List.take_length] at hL
  exact he l g H' s hh.1 hL hf
theorem zo9 (v:GV) (hv:Elems 3 v (links.map lkG)) (D:List (List UInt8)) (hD:D.length≤10000) (l0:List GV) (g0:Nat) (H0:GH) (hV:VDone H0 n w links outs ins) (hbt:H0.bt≤H0.toks.length) (s0:GV) (H1:GH) (h0:LnAt H0 D s0 H1) (K:GExit × St→Prop)
 (h58:zag l0 58=v) (h59:zag l0 59=.int .i64 links.length) (h60:zag l0 60=.int .i64 0) (hs0:zag l0 0=.ptr (n+6) 0) (h3:zag l0 3=s0)
 (he:∀ l g H s,zag l 3=s→LnAt H0 (D++links.flatMap (zcy w)) s H→Fr zrn l0 l→K (.exit 4,⟨⟨l,g⟩,H⟩)) :
 optW (erun T (.loop zrn) ⟨⟨l0,g0⟩,H1⟩) K:=by
 have hnl:=hok.lcount
 have hnm:=hok.link
 obtain ⟨vn,vl,h6,_,_⟩:=hV.obj
 obtain ⟨es2,hN4,hM2⟩:=hV.names
 generalize hNN:links=N at hv h59 he hnl hnm
 have hfl:∀ i,i≤60→((N.take i).flatMap (zcy w)).length≤i * 61:=fun i hi=>by
  have:∀ (M:List Lk) ,(M.flatMap (zcy w)).length≤M.length * 61:=fun M=>by
   induction M with
   | nil=>simp
   | cons a M ih =>
    have:=hok.names (zcl a)
    simp only [List.flatMap_cons,List.length_append,List.length_cons,zcy,List.length_map] at ih ⊢
    omega
  have h1:=this (N.take i)
  have h2:(N.take i).length≤i:=by rw [List.length_take]; omega
  have h3:=Nat.mul_le_mul_right 61 h2
  omega
 refine za5 (T:=T) (n:=N.length) (A:=GV) (fun _ s=>[(3,s)]) (fun i s _ H'=>LnAt H0 (D++(N.take i).flatMap (zcy w)) s H') (c:=61) (b:=4) (I:=60) (N:=59) (d:=109) rfl (by omega) (by decide) ⟨rfl,rfl⟩ (by simp) ?_ ?_ 0 s0 _ _ H1 (by omega) (by simpa using h0) (by simp [h3]) (.refl _ _ _) h60 h59
 ·intro i s l g H' hi hL hh hf hI
  have k58:=hf.get 58 rfl h58 (by simp [hv.boxy])
  have k0:=hf.get 0 rfl hs0 rfl
  simp only [zaB,zaM,and_true] at hh
  obtain ⟨lt,ix,opt,get,⟨t,sv⟩,_,mem⟩:=zeU (e:=lkG) hv hi (by omega)
  generalize N[i]'hi=x at opt get mem
  have hx:=hnm x mem
  have hnx:D++(N.take (i+1)).flatMap (zcy w)=D++(N.take i).flatMap (zcy w)++zcy w x:=by rw [List.take_add_one,opt]; simp
  have hlen:(D++(N.take i).flatMap (zcy w)).length≤20000:=by
   have:=hfl i (by omega)
   rw [List.length_append]; omega
  rw [hnx]
  generalize D++(N.take i).flatMap (zcy w)=M at hL hlen
  have hk2:=zgo (x:=zcl x) ⟨by have:=hx.1; simp; omega,by have:=hx.2.1; simp; omega,by have:=hx.2.2; simp; omega,by simp⟩ ⟨by simp,by simp⟩
  have hn2:=hM2.at_ (zcl x) hk2
  generalize hv2:(zaX es2 (elG (zcl x))).getD .nilsl=v2 at hn2
  have hJ:=zjG (.sl 1 ([zvu,x.f,x.y,x.t].map za2) .exact) [zvu,x.f,x.y,x.t] (.sl _ _) zo4 (by simp) (by rw [zde]; exact zvx hx) H'
  rw [zde] at hJ
  have m1:mkB zvu=(⟨#[101,100,103,101]⟩:ByteArray):=rfl
  simp only [List.map_cons,List.map_nil,za2,m1] at hJ
  change ecall T zjJ [_,.str ⟨#[32]⟩] H'=some (.str (mkB (zgN x)),H') at hJ
  obtain ⟨s2,H2,a2,L2,o2⟩:=hL.step hbt (by omega) (zgN x)
  have su:=zaf hL.app.elems
  have so:=hL.app.elems.ok
  have wu:=zaf L2.app.elems
  have n2l:=hn2.len
  have n2u:=hn2.unb
  have n2o:=hn2.ok
  simp only [List.length_map] at n2l
  have hlx:(lkC x).length=3:=rfl
  have htx:List.take 3 (lkC x)=lkC x:=rfl
  have hox:(lkC x).all GV.one=true:=rfl
  have hsx:zae [GV.str ⟨#[]⟩,.str ⟨#[]⟩,.str ⟨#[]⟩] 0 (lkC x)=some (lkC x):=rfl
  have x0:∀ h,(lkC x)[0]'h=.str (mkB x.f):=fun _=>rfl
  have y0:∀ h,(lkC x)[1]'h=.str (mkB x.t):=fun _=>rfl
  have z0:∀ h,(lkC x)[2]'h=.str (mkB x.y):=fun _=>rfl
  have x0':(lkC x)[0]?=some (.str (mkB x.f)):=rfl
  have y0':(lkC x)[1]?=some (.str (mkB x.t)):=rfl
  have z0':(lkC x)[2]?=some (.str (mkB x.y)):=rfl
  rw [sv] at k58
  simp only [za2] at a2
  have o6:=h6
  have o4:=hN4
  rw [← L2.objs] at o6 o4
  have hND:=fun H=>zi8 x H
  simp only [elC,elG,zf5] at hk2 hv2 hND
  simp [k58,k0,hh,hI,ix,opt,get,hlx,htx,hox,hsx,x0,y0,z0,x0',y0',z0',za6,zae,zaj,su,so,hJ,a2,wu,o2,o6,o4,hND,hk2,hv2,n2l,n2u,n2o]
  rw [zar,zar]
  refine zmB hok x hx g v2 hn2 (M++[zgN x]) (by simp; omega) _ _ H0 hV hbt s2 H2 L2 _ (by simp [n2u]) (by simp) (by simp) (by simp [k0]) (by simp) (by simp) ?_
  intro l2 g2 H3 s3 q3 L3 hf2
  have e3:M++[zgN x]++(w.names (zcl x)).map (zcn w x)=M++zcy w x:=by simp [zcy]
  rw [e3] at L3
  simp [q3,L3]
 ·intro s l g H' hL hh hf
  simp only [zaB,zaM,and_true] at hh
  rw [List.take_length] at hL
  exact he l g H' s hh hL hf
theorem zjc {H:GH} (hV:VDone H n w links outs ins):∃ v,ecall T zmd [.ptr (n+6) 0] H=some (v,H)∧Elems 1 v ((zhE w links).map za2):=by
 have hVo:VDone H.over n w links outs ins:=hV.keep fun _ _ _=>rfl
 obtain ⟨vn,c1,c2⟩:=zo0 hVo (by have:=hok.nodes; omega)
 have nl:=c2.len
 have nu:=zaf c2
 have no:=c2.ok
 simp only [List.length_map] at nl
 have goal:optW (ecall T zmd [.ptr (n+6) 0] H) fun r=>∃ v,r=(v,H)∧Elems 1 v ((zhE w links).map za2):=by
  rw [zci zCz rfl (by simp [zro]),zab]
  simp only [zro,zzN]
  simp [c1,nl,nu,no]
  rw [zay,zar]
  refine zo8 hok vn c2 _ _ H.over hVo (Nat.le_refl _) _ (by simp [nu]) (by simp) (by simp) (by simp) (by simp) ?_
  intro l g H1 s k3 hL hf
  have k0:=hf.get 0 rfl (v:=.ptr (n+6) 0) (by simp) rfl
  obtain ⟨ve,d1,d2⟩:=zja (H:=H1) (hVo.keep fun j _ _=>by rw [hL.objs]) (by have:=hok.lcount; omega)
  have el:=d2.len
  have eu:=zaf d2
  have eo:=d2.ok
  simp only [List.length_map] at el
  have hln:(w.nodes.flatMap (zb7 w)).length≤10000:=by
   have:∀ (M:List (List UInt8)) ,(M.flatMap (zb7 w)).length≤M.length * 61:=fun M=>by
    induction M with
    | nil=>simp
    | cons a M ih =>
     have:=hok.names (zaw a)
     simp only [List.flatMap_cons,List.length_append,List.length_cons,zb7,List.length_map] at ih ⊢
     omega
   have h1:=this w.nodes
   have h2:=Nat.mul_le_mul_right 61 hok.nodes
   omega
  simp [k0,d1,el,eu,eo]
  rw [zay,zar]
  refine zo9 hok ve d2 _ hln _ _ H.over hVo (Nat.le_refl _) s H1 hL _ (by simp [eu]) (by simp) (by simp) (by simp [k0]) (by simp [k3]) ?_
  intro l2 g2 H2 s2 q3 L2 hf2
  have hE:=L2.app.elems
  obtain ⟨v2,f1,f2⟩:=zdA (a:=H.objs.length) (b:=H.toks.length) (n:=99) hE (fun x hx=>by obtain ⟨y,_,rfl⟩:=List.mem_map.1 hx; rfl)
  have su:=zaf hE
  have so:=hE.ok
  simp [q3,su,so,f1]
  exact f2
 obtain ⟨r,hr,v,rfl,h2⟩:=goal
 exact ⟨v,hr,h2⟩
end
end Go.Proofs.YtchjbidfmhmmhaaGreatDoor
