/- Own work: the zaO machine and what it shows, part Lb. -/
import Derived.Test.YtchjbidfmhmmhaaGreatDoorLa
import Derived.Test.YtchjbidfmhmmhaaGreatDoorRowA
set_option linter.all false
namespace Go.Proofs.YtchjbidfmhmmhaaGreatDoor
open Go.Sh
set_option maxHeartbeats 4000000
set_option maxRecDepth 100000
def zcq (R:List Evt):Vw:={ zik R with nodes:=zcs R,labels:=zcf R,values:=za4 R,names:=zbS R }
theorem zxC {R:List Evt} (h:Row R):zik R=zcq R:=by
 have e1:(zik R).nodes=zcs R:=zqm h _
 have e2:(zik R).labels=zcf R:=funext fun k=>znT _ k
 have e3:(zik R).values=za4 R:=funext fun z=>zii (zpf h) z
 have e4:(zik R).names=zbS R:=funext fun o=>zqo h (zpf h) o
 unfold zcq
 rw [← e1,← e2,← e3,← e4]
theorem zgi (w:List UInt8) (a b:List (List UInt8)):zaE (zaE w a) b=zaE w (a++b):=by
 simp [zaE,Lib.joinTail]
theorem zc9 {a b:List UInt8} (h:(a++b).length≤100000000):zcM .add (mkB a) (mkB b)=some (.str (mkB (a++b))):=zGS (by simpa using h)
theorem zk4 {R:List Evt} {vr:GV} (h:RowV R vr) (L:List El) (hL:L.length≤1000) (vx:GV) (hvx:Elems 5 vx (L.map elG)) (l0:List GV) (g0:Nat) (H0:GH) (hbt:H0.bt≤H0.toks.length) (K:GExit × St→Prop)
 (h7:zad l0 7=vx) (h8:zad l0 8=.int .i64 L.length) (h9:zad l0 9=.int .i64 0) (h0:zad l0 0=vr) (h3:zad l0 3=.nilsl)
 (he:∀ l g H s,zad l 3=s→Grown 1 H0 .nilsl (((L.filter fun e=>decide (e.k=1)&&zdk R e.a).map (·.a)).map zaJ) H s→K (.exit 0,⟨⟨l,g⟩,H⟩)) :
 optW (erun T (.loop zzd) ⟨⟨l0,g0⟩,H0⟩) K:=by
 refine zau (T:=T) (n:=L.length) (A:=GV) (fun _ s=>[(3,s)]) (fun i s _ H'=>Grown 1 H0 .nilsl ((((L.take i).filter fun e=>decide (e.k=1)&&zdk R e.a).map (·.a)).map zaJ) H' s) (c:=10) (b:=0) (I:=9) (N:=8) (d:=27) rfl (by omega) (by decide) ⟨rfl,rfl⟩ (by simp) ?_ ?_ 0 .nilsl _ _ H0 (by omega) (by simpa using Grown.refl .nil) (by simp [h3]) (.refl _ _ _) h9 h8
 ·intro i s l g H' hi hG hh hf hI
  have k7:=hf.get 7 rfl h7 (by simp [hvx.boxy])
  have k0:=hf.get 0 rfl h0 (by simp [h.el.boxy])
  simp only [zah,zaj,and_true] at hh
  obtain ⟨lt,ix,opt,get,⟨t,sv⟩,_,mem⟩:=zbX (e:=elG) hvx hi (by omega)
  generalize L[i]'hi=e at opt get mem
  have hN:=zgh h e.a H'
  have hnx:((L.take (i+1)).filter fun e=>decide (e.k=1)&&zdk R e.a).map (·.a)=((L.take i).filter fun e=>decide (e.k=1)&&zdk R e.a).map (·.a)++(if (decide (e.k=1)&&zdk R e.a)=true then [e.a] else []):=by
   rw [List.take_add_one,opt]
   simp only [Option.toList_some,List.filter_append,List.map_append]
   congr 1
   cases hb:(decide (e.k=1)&&zdk R e.a) <;> simp [List.filter,hb]
  have hlen:(((L.take i).filter fun e=>decide (e.k=1)&&zdk R e.a).map (·.a)).length≤1000:=by
   have h1:=List.length_filter_le (fun e:El=>decide (e.k=1)&&zdk R e.a) (L.take i)
   rw [List.length_map]
   rw [List.length_take] at h1; omega
  rw [hnx]
  generalize ((L.take i).filter fun e=>decide (e.k=1)&&zdk R e.a).map (·.a)=M at hG hlen
  rw [sv] at k7
  have vu:=h.el.unb
  have vo:=h.el.ok
  have wok:=hG.ok
  have hu:=zac hG.app.elems
  obtain ⟨ek,ea,eb,ec,ed⟩:=e
  simp only [elC] at hN
  by_cases hk:ek=1
  ·subst hk
   cases hr:zdk R ea with
   | false =>
    rw [hr] at hN
    simp [k7,k0,hI,ix,opt,get,elC,zae,vu,vo,hN,hr]
    exact fun _=>by rw [hh]; exact hG
   | true =>
    rw [hr] at hN
    obtain ⟨w',H2,a1,G1⟩:=zbj (ty:=9) (bytes:=16) (ys:=[zaJ ea]) (x:=.sl 1 [zaJ ea] .exact) hG.app (by simp [zbB]) (hG.step.btle hbt) (by simp only [List.length_singleton,List.length_map,zdu]; omega) (by simp only [List.length_singleton,List.length_map,maxLen]; omega)
    have wok':=G1.ok
    have G2:=hG.trans G1
    simp only [zaJ] at a1
    simp [k7,k0,hI,ix,opt,get,elC,zae,vu,vo,hN,hr,hh,wok,wok',hu,zak,a1]
    exact fun _=>by simpa using G2
  ·simp [k7,k0,hI,ix,opt,get,elC,zae,vu,vo,hk]
   exact fun _=>by rw [hh]; exact hG
 ·intro s l g H' hG hh hf
  simp only [zah,zaj,and_true] at hh
  rw [List.take_length] at hG
  exact he l g H' s hh hG
theorem zka {R:List Evt} {vr:GV} (h:RowV R vr) (H:GH):∃ v,ecall T zp5 [vr] H=some (v,H)∧Elems 1 v ((zcs R).map zaJ):=by
 have hle:=h.row.le
 obtain ⟨vx,H1,hx,hE,hT⟩:=zgl (by omega) h.row.fit vr h.el H.over (Nat.le_refl _)
 have l:=hE.len
 simp only [List.length_map] at l
 have hel:=zb0 R
 have goal:optW (ecall T zp5 [vr] H) fun r=>∃ v,r=(v,H)∧Elems 1 v ((zcs R).map zaJ):=by
  rw [zbd zE8 rfl (by simp [zs9]),zab]
  simp only [zs9,zB5]
  have vu:=h.el.unb
  have vo:=h.el.ok
  simp [vu,vo,hx,hE.unb,hE.ok,l]
  rw [zao,zai]
  refine zk4 h (za0 R) (by omega) vx hE _ _ H1 (hT.btle (Nat.le_refl _)) _ (by simp [hE.unb]) (by simp) (by simp) (by simp [vu]) (by simp) ?_
  intro l4 g4 H4 v k3 hG
  have hE4:=hG.app.elems
  obtain ⟨v2,d1,d2⟩:=zbG (a:=H.objs.length) (b:=H.toks.length) (n:=99) hE4 (fun x hx=>by obtain ⟨y,_,rfl⟩:=List.mem_map.1 hx; rfl)
  simp [k3,hE4.unb,hE4.ok,d1]
  exact d2
 obtain ⟨r,hr,v,rfl,h2⟩:=goal
 exact ⟨v,hr,h2⟩
theorem zmm (vs:List Vl) (hl:vs.length≤1000) (hb:∀ v∈vs,zk2 v) (v:GV) (hv:Elems 3 v (vs.map vlG)) (w0:List UInt8) (hj:(zaE w0 (vs.map zc3)).length≤100000000) (l0:List GV) (g0:Nat) (H0:GH) (K:GExit × St→Prop)
 (h11:zad l0 11=v) (h12:zad l0 12=.int .i64 vs.length) (h13:zad l0 13=.int .i64 0) (h1:zad l0 1=.str (mkB w0))
 (he:∀ l g,zad l 1=.str (mkB (zaE w0 (vs.map zc3)))→K (.exit 0,⟨⟨l,g⟩,H0⟩)) :
 optW (erun T (.loop zzf) ⟨⟨l0,g0⟩,H0⟩) K:=by
 refine zau (T:=T) (n:=vs.length) (A:=Unit) (fun i _=>[(1,.str (mkB (zaE w0 ((vs.take i).map zc3))))]) (fun i _ _ H'=>H'=H0) (c:=14) (b:=0) (I:=13) (N:=12) (d:=22) rfl (by omega) (by decide) ⟨rfl,rfl⟩ (by simp) ?_ ?_ 0 () _ _ H0 (by omega) rfl (by simp [h1,zaE,Lib.joinTail]) (.refl _ _ _) h13 h12
 ·intro i s l g H' hi hH hh hf hI
  subst hH
  have k11:=hf.get 11 rfl h11 (by simp [hv.boxy])
  simp only [zah,zaj,and_true] at hh
  obtain ⟨lt,ix,opt,get,⟨t,sv⟩,_,mem⟩:=zbX (e:=vlG) hv hi (by omega)
  generalize hge:vs[i]'hi=e at opt get mem
  have hnx:(vs.take (i+1)).map zc3=(vs.take i).map zc3++[zc3 e]:=by rw [List.take_add_one,opt]; simp
  have hpre:(zaE w0 ((vs.take (i+1)).map zc3)).length≤100000000:=by
   have h1:vs.map zc3=(vs.take (i+1)).map zc3++(vs.drop (i+1)).map zc3:=by rw [← List.map_append,List.take_append_drop]
   rw [h1,← zgi] at hj
   have:(zaE (zaE w0 ((vs.take (i+1)).map zc3)) ((vs.drop (i+1)).map zc3)).length=(zaE w0 ((vs.take (i+1)).map zc3)).length+(Lib.joinTail zmh ((vs.drop (i+1)).map zc3)).length:=by simp only [zaE,List.length_append]
   omega
  have hst:zaE w0 ((vs.take (i+1)).map zc3)=(zaE w0 ((vs.take i).map zc3)++[32])++zc3 e:=by rw [hnx,zmi]; simp
  have hh2:zad l 1=.str (mkB (zaE w0 ((vs.take i).map zc3))):=hh
  rw [hst] at hpre
  have hgoal:∀ a b,(zaE w0 ((vs.take (i+1)).map zc3))=a→a=b→b=zaE w0 ((vs.take (i+1)).map zc3):=fun a b h1 h2=>by rw [← h2,h1]
  simp only [hst]
  generalize zaE w0 ((vs.take i).map zc3)=A at hh hh2 hpre
  have p1:zcM .add (mkB A) (⟨#[32]⟩:ByteArray)=some (.str (mkB (A++[32]))):=zc9 (by rw [List.length_append] at hpre; omega)
  obtain ⟨B,hB⟩:∃ B,A++[32]=B:=⟨_,rfl⟩
  rw [hB] at p1 hpre ⊢
  have p2:zcM .add (mkB B) (mkB (zc3 e))=some (.str (mkB (B++zc3 e))):=zc9 hpre
  obtain ⟨C,hC⟩:∃ C,B++zc3 e=C:=⟨_,rfl⟩
  rw [hC] at p2 ⊢
  have hS:=fun H=>zuf e (hb e mem) H
  rw [sv] at k11
  simp [k11,hh2,hI,ix,opt,get,zzj,zue,zzk,zzl,hS,p1,p2]
 ·intro s l g H' hH hh hf
  subst hH
  simp only [zah,zaj,and_true] at hh
  rw [List.take_length] at hh
  exact he l g hh
theorem zmn {R:List Evt} {vr:GV} (h:RowV R vr) (x:El) (w0:List UInt8) (hl:(za4 R x).length≤1000) (hj:(zaE w0 ((za4 R x).map zc3)).length≤100000000) (H:GH) :
 ecall T zsy [vr,.str (mkB w0),.agg (elC x)] H=some (.str (mkB (zaE w0 ((za4 R x).map zc3))),H):=by
 obtain ⟨v,c1,c2⟩:=zil h x H.over
 have hlx:(elC x).length=5:=rfl
 have htx:List.take 5 (elC x)=elC x:=rfl
 have hcl:∀ s,zaM H.objs.length H.toks.length 100 (.str s)=some (.str s):=fun _=>rfl
 have nl:=c2.len
 have nu:=zac c2
 have no:=c2.ok
 have vu:=h.el.unb
 have vo:=h.el.ok
 simp only [List.length_map] at nl
 apply optW.eq
 rw [zbd zFv rfl (by simp [zts]),zab]
 simp only [zts,zCo]
 simp [vu,vo,hlx,htx,c1,nl,nu,no]
 rw [zao,zai]
 refine zmm (za4 R x) hl (zhw h.row x) v c2 w0 hj _ _ H.over _ (by simp [nu]) (by simp) (by simp) (by simp) ?_
 intro l g k1
 simp [k1,hcl]
section
variable {R:List Evt} {vr:GV} (h:RowV R vr) (hok:VwOk (zcq R) (zbR R))
include h hok
theorem zjx (key:List UInt8) (hkey:key.length≤1048576) (v:GV) (hv:Elems 1 v ((zcf R key).map zaJ)) (l0:List GV) (g0:Nat) (H0:GH) (K:GExit × St→Prop)
 (h27:zad l0 27=v) (h28:zad l0 28=.int .i64 (zcf R key).length) (h29:zad l0 29=.int .i64 0) (h6:zad l0 6=.str (mkB (zaE zfM [key])))
 (he:∀ l g,zad l 6=.str (mkB (zei (zcq R) key))→Fr zs2 l0 l→K (.exit 2,⟨⟨l,g⟩,H0⟩)) :
 optW (erun T (.loop zs2) ⟨⟨l0,g0⟩,H0⟩) K:=by
 have hnl:=zpi hok hkey
 have hlc:=hok.labels key
 have hN:zei (zcq R) key=zaE zfM (key::zcf R key):=rfl
 rw [hN] at he hnl
 change (zcf R key).length≤60 at hlc
 generalize zcf R key=N at hv h28 he hnl hlc
 refine zau (T:=T) (n:=N.length) (A:=Unit) (fun i _=>[(6,.str (mkB (zaE zfM (key::N.take i))))]) (fun i _ _ H'=>H'=H0) (c:=30) (b:=2) (I:=29) (N:=28) (d:=37) rfl (by omega) (by decide) ⟨rfl,rfl⟩ (by simp) ?_ ?_ 0 () _ _ H0 (by omega) rfl (by simp [h6]) (.refl _ _ _) h29 h28
 ·intro i s l g H' hi hH hh hf hI
  subst hH
  have k27:=hf.get 27 rfl h27 (by simp [hv.boxy])
  simp only [zah,zaj,and_true] at hh
  obtain ⟨lt,ix,opt,get,⟨t,sv⟩,_,mem⟩:=zbX (e:=zaJ) hv hi (by omega)
  generalize hge:N[i]'hi=e at opt get mem
  have hnx:key::N.take (i+1)=(key::N.take i)++[e]:=by rw [List.take_add_one,opt]; simp
  have hpre:(zaE zfM (key::N.take (i+1))).length≤100000000:=by
   have h1:key::N=(key::N.take (i+1))++N.drop (i+1):=by simp
   rw [h1,← zgi] at hnl
   have:(zaE (zaE zfM (key::N.take (i+1))) (N.drop (i+1))).length=(zaE zfM (key::N.take (i+1))).length+(Lib.joinTail zmh (N.drop (i+1))).length:=by simp only [zaE,List.length_append]
   omega
  have hst:zaE zfM (key::N.take (i+1))=(zaE zfM (key::N.take i)++[32])++e:=by rw [hnx,zmi]; simp
  rw [hst] at hpre
  simp only [hst]
  generalize zaE zfM (key::N.take i)=A at hh hpre
  have p1:zcM .add (mkB A) (⟨#[32]⟩:ByteArray)=some (.str (mkB (A++[32]))):=zc9 (by rw [List.length_append] at hpre; omega)
  obtain ⟨B,hB⟩:∃ B,A++[32]=B:=⟨_,rfl⟩
  rw [hB] at p1 hpre ⊢
  have p2:zcM .add (mkB B) (mkB e)=some (.str (mkB (B++e))):=zc9 hpre
  obtain ⟨C,hC⟩:∃ C,B++e=C:=⟨_,rfl⟩
  rw [hC] at p2 ⊢
  have hc0:(zaJ e).cells=[.str (mkB e)]:=rfl
  rw [sv] at k27
  simp [k27,hh,hI,ix,opt,get,hc0,p1,p2]
 ·intro s l g H' hH hh hf
  subst hH
  simp only [zah,zaj,and_true] at hh
  rw [List.take_length] at hh
  exact he l g hh hf
theorem zk5 (key:List UInt8) (hkey:key.length≤1048576) (v:GV) (hv:Elems 1 v ((zbS R (zaD key)).map zaJ)) (D:List (List UInt8)) (hD:D.length≤100000) (l0:List GV) (g0:Nat) (H0:GH) (hbt:H0.bt≤H0.toks.length) (s0:GV) (H1:GH) (hl0:LnAt H0 D s0 H1) (K:GExit × St→Prop)
 (h45:zad l0 45=v) (h46:zad l0 46=.int .i64 (zbS R (zaD key)).length) (h47:zad l0 47=.int .i64 0) (h0:zad l0 0=vr) (h5:zad l0 5=.str (mkB key)) (h3:zad l0 3=s0)
 (he:∀ l g H s,zad l 3=s→LnAt H0 (D++(zbS R (zaD key)).map (zbV (zcq R) key)) s H→Fr zs3 l0 l→K (.exit 4,⟨⟨l,g⟩,H⟩)) :
 optW (erun T (.loop zs3) ⟨⟨l0,g0⟩,H1⟩) K:=by
 have hnl:=hok.names (zaD key)
 have hnm:=hok.name (zaD key)
 change (zbS R (zaD key)).length≤60 at hnl
 change ∀ l∈zbS R (zaD key),l.length≤1048576 at hnm
 generalize zbS R (zaD key)=N at hv h46 he hnl hnm
 refine zau (T:=T) (n:=N.length) (A:=GV) (fun _ s=>[(3,s)]) (fun i s _ H'=>LnAt H0 (D++(N.take i).map (zbV (zcq R) key)) s H') (c:=48) (b:=4) (I:=47) (N:=46) (d:=64) rfl (by omega) (by decide) ⟨rfl,rfl⟩ (by simp) ?_ ?_ 0 s0 _ _ H1 (by omega) (by simpa using hl0) (by simp [h3]) (.refl _ _ _) h47 h46
 ·intro i s l g H' hi hL hh hf hI
  have k45:=hf.get 45 rfl h45 (by simp [hv.boxy])
  have k0:=hf.get 0 rfl h0 (by simp [h.el.boxy])
  have k5:=hf.get 5 rfl h5 rfl
  simp only [zah,zaj,and_true] at hh
  obtain ⟨lt,ix,opt,get,⟨t,sv⟩,_,mem⟩:=zbX (e:=zaJ) hv hi (by omega)
  generalize N[i]'hi=e at opt get mem
  have hnx:D++(N.take (i+1)).map (zbV (zcq R) key)=(D++(N.take i).map (zbV (zcq R) key))++[zbV (zcq R) key e]:=by rw [List.take_add_one,opt]; simp
  have hlen:(D++(N.take i).map (zbV (zcq R) key)).length≤200000:=by rw [List.length_append,List.length_map,List.length_take]; omega
  rw [hnx]
  generalize D++(N.take i).map (zbV (zcq R) key)=M at hL hlen
  have hpl:zaE (zaE zmk [key,e]) ((za4 R ⟨4,key,[],[],e⟩).map zc3)=zbV (zcq R) key e:=by rw [zgi]; rfl
  have hkp:=zmn h ⟨4,key,[],[],e⟩ (zaE zmk [key,e]) (by have:=hok.values ⟨4,key,[],[],e⟩; change (za4 R _).length≤60 at this; omega) (by rw [hpl]; exact zph hok hkey (hnm e mem)) H'
  rw [hpl] at hkp
  obtain ⟨s',H2,a1,L1,o1⟩:=hL.step hbt (by omega) (zbV (zcq R) key e)
  have su:=zac hL.app.elems
  have so:=hL.app.elems.ok
  have wu:=zac L1.app.elems
  simp only [elC,zdN] at hkp
  have he1:=hnm e mem
  have p1:zcM .add (⟨#[112,114,111,112,32]⟩:ByteArray) (mkB key)=some (.str (mkB ([112,114,111,112,32]++key))):=zc9 (by simp; omega)
  have p2:zcM .add (mkB ([112,114,111,112,32]++key)) (⟨#[32]⟩:ByteArray)=some (.str (mkB (([112,114,111,112,32]++key)++[32]))):=zc9 (by simp; omega)
  have p3:zcM .add (mkB (([112,114,111,112,32]++key)++[32])) (mkB e)=some (.str (mkB ((([112,114,111,112,32]++key)++[32])++e))):=zc9 (by simp; omega)
  rw [show (([112,114,111,112,32]++key)++[32])++e=zaE zmk [key,e] by simp [zaE,Lib.joinTail]] at p3
  generalize ([112,114,111,112,32]++key)++[32]=B at p2 p3
  generalize [112,114,111,112,32]++key=A at p1 p2
  have hc0:(zaJ e).cells=[.str (mkB e)]:=rfl
  have vu:=h.el.unb
  have vo:=h.el.ok
  rw [sv] at k45
  simp only [zaJ] at a1
  simp [k45,k0,k5,hh,hI,ix,opt,get,hc0,zaK,zae,zak,su,so,vu,vo,p1,p2,p3,hkp,a1,wu,o1,L1]
 ·intro s l g H' hL hh hf
  simp only [zah,zaj,and_true] at hh
  rw [List.take_length] at hL
  exact he l g H' s hh hL hf
theorem zjy (x:Lk) (hx:x.f.length≤1048576∧x.t.length≤1048576∧x.y.length≤1048576) (g12:Nat) (v:GV) (hv:Elems 1 v ((zbS R (zbr x)).map zaJ)) (D:List (List UInt8)) (hD:D.length≤100000) (l0:List GV) (g0:Nat) (H0:GH) (hbt:H0.bt≤H0.toks.length) (s0:GV) (H1:GH) (hl0:LnAt H0 D s0 H1) (K:GExit × St→Prop)
 (h91:zad l0 91=v) (h92:zad l0 92=.int .i64 (zbS R (zbr x)).length) (h93:zad l0 93=.int .i64 0) (h0:zad l0 0=vr) (h12:zad l0 12=.lbox g12 (lkC x)) (h13:zad l0 13=.str (mkB (zaE x.f [x.y,x.t]))) (h3:zad l0 3=s0)
 (he:∀ l g H s,zad l 3=s→LnAt H0 (D++(zbS R (zbr x)).map (zbl (zcq R) x)) s H→Fr zs5 l0 l→K (.exit 8,⟨⟨l,g⟩,H⟩)) :
 optW (erun T (.loop zs5) ⟨⟨l0,g0⟩,H1⟩) K:=by
 have hnl:=hok.names (zbr x)
 have hnm:=hok.name (zbr x)
 obtain ⟨x1,x2,x3⟩:=hx
 change (zbS R (zbr x)).length≤60 at hnl
 change ∀ l∈zbS R (zbr x),l.length≤1048576 at hnm
 generalize zbS R (zbr x)=N at hv h92 he hnl hnm
 refine zau (T:=T) (n:=N.length) (A:=GV) (fun _ s=>[(3,s),(12,.lbox g12 (lkC x))]) (fun i s _ H'=>LnAt H0 (D++(N.take i).map (zbl (zcq R) x)) s H') (c:=94) (b:=8) (I:=93) (N:=92) (d:=115) rfl (by omega) (by decide) ⟨rfl,rfl⟩ (by simp) ?_ ?_ 0 s0 _ _ H1 (by omega) (by simpa using hl0) (by simp [h3,h12]) (.refl _ _ _) h93 h92
 ·intro i s l g H' hi hL hh hf hI
  have k91:=hf.get 91 rfl h91 (by simp [hv.boxy])
  have k0:=hf.get 0 rfl h0 (by simp [h.el.boxy])
  have k13:=hf.get 13 rfl h13 rfl
  simp only [zah,zaj,and_true] at hh
  obtain ⟨k3,k12⟩:=hh
  obtain ⟨lt,ix,opt,get,⟨t,sv⟩,_,mem⟩:=zbX (e:=zaJ) hv hi (by omega)
  generalize N[i]'hi=e at opt get mem
  have hnx:D++(N.take (i+1)).map (zbl (zcq R) x)=(D++(N.take i).map (zbl (zcq R) x))++[zbl (zcq R) x e]:=by rw [List.take_add_one,opt]; simp
  have hlen:(D++(N.take i).map (zbl (zcq R) x)).length≤200000:=by rw [List.length_append,List.length_map,List.length_take]; omega
  rw [hnx]
  generalize D++(N.take i).map (zbl (zcq R) x)=M at hL hlen
  have hpl:zaE (zaE zhx [x.f,x.y,x.t,e]) ((za4 R ⟨5,x.f,x.t,x.y,e⟩).map zc3)=zbl (zcq R) x e:=by rw [zgi]; rfl
  have hkp:=zmn h ⟨5,x.f,x.t,x.y,e⟩ (zaE zhx [x.f,x.y,x.t,e]) (by have:=hok.values ⟨5,x.f,x.t,x.y,e⟩; change (za4 R _).length≤60 at this; omega) (by rw [hpl]; exact zml hok ⟨x1,x2,x3⟩ (hnm e mem)) H'
  rw [hpl] at hkp
  obtain ⟨s',H2,a1,L1,o1⟩:=hL.step hbt (by omega) (zbl (zcq R) x e)
  have su:=zac hL.app.elems
  have so:=hL.app.elems.ok
  have wu:=zac L1.app.elems
  simp only [elC] at hkp
  have he1:=hnm e mem
  have hw:(zaE x.f [x.y,x.t]).length≤4000000:=by simp [zaE,Lib.joinTail]; omega
  have p3':(([116,114,97,105,116,32]++zaE x.f [x.y,x.t])++[32])++e=zaE zhx [x.f,x.y,x.t,e]:=by simp [zaE,Lib.joinTail]
  generalize zaE x.f [x.y,x.t]=W at k13 hw p3'
  have p1:zcM .add (⟨#[116,114,97,105,116,32]⟩:ByteArray) (mkB W)=some (.str (mkB ([116,114,97,105,116,32]++W))):=zc9 (by simp; omega)
  have p2:zcM .add (mkB ([116,114,97,105,116,32]++W)) (⟨#[32]⟩:ByteArray)=some (.str (mkB (([116,114,97,105,116,32]++W)++[32]))):=zc9 (by simp; omega)
  have p3:zcM .add (mkB (([116,114,97,105,116,32]++W)++[32])) (mkB e)=some (.str (mkB ((([116,114,97,105,116,32]++W)++[32])++e))):=zc9 (by simp; omega)
  rw [p3'] at p3
  clear p3'
  generalize ([116,114,97,105,116,32]++W)++[32]=B at p2 p3
  generalize [116,114,97,105,116,32]++W=A at p1 p2
  have hc0:(zaJ e).cells=[.str (mkB e)]:=rfl
  have x0:∀ h,(lkC x)[0]'h=.str (mkB x.f):=fun _=>rfl
  have y0:∀ h,(lkC x)[1]'h=.str (mkB x.t):=fun _=>rfl
  have z0:∀ h,(lkC x)[2]'h=.str (mkB x.y):=fun _=>rfl
  have x0':(lkC x)[0]?=some (.str (mkB x.f)):=rfl
  have y0':(lkC x)[1]?=some (.str (mkB x.t)):=rfl
  have z0':(lkC x)[2]?=some (.str (mkB x.y)):=rfl
  have vu:=h.el.unb
  have vo:=h.el.ok
  rw [sv] at k91
  simp only [zaJ] at a1
  simp [k91,k0,k12,k13,k3,hI,ix,opt,get,hc0,x0,y0,z0,x0',y0',z0',zaK,zae,zak,su,so,vu,vo,p1,p2,p3,hkp,a1,wu,o1,L1]
 ·intro s l g H' hL hh hf
  simp only [zah,zaj,and_true] at hh
  rw [List.take_length] at hL
  exact he l g H' s hh.1 hL hf
end
section
variable {R:List Evt} {vr:GV} (h:RowV R vr) (hok:VwOk (zcq R) (zbR R))
include h hok
theorem zjz (v:GV) (hv:Elems 1 v ((zcs R).map zaJ)) (l0:List GV) (g0:Nat) (H0:GH) (hbt:H0.bt≤H0.toks.length) (K:GExit × St→Prop)
 (h17:zad l0 17=v) (h18:zad l0 18=.int .i64 (zcs R).length) (h19:zad l0 19=.int .i64 0) (h0:zad l0 0=vr) (h3:zad l0 3=.nilsl)
 (he:∀ l g H s,zad l 3=s→LnAt H0 ((zcs R).flatMap (zbe (zcq R))) s H→Fr zs4 l0 l→K (.exit 0,⟨⟨l,g⟩,H⟩)) :
 optW (erun T (.loop zs4) ⟨⟨l0,g0⟩,H0⟩) K:=by
 have hnl:=hok.nodes
 have hnm:=hok.node
 change (zcs R).length≤60 at hnl
 change ∀ k∈zcs R,k.length≤1048576 at hnm
 generalize zcs R=N at hv h18 he hnl hnm
 have hfl:∀ i,i≤60→((N.take i).flatMap (zbe (zcq R))).length≤i * 61:=fun i hi=>by
  have:∀ (M:List (List UInt8)) ,(M.flatMap (zbe (zcq R))).length≤M.length * 61:=fun M=>by
   induction M with
   | nil=>simp
   | cons a M ih =>
    have:=hok.names (zaD a)
    simp only [List.flatMap_cons,List.length_append,List.length_cons,zbe,List.length_map] at ih ⊢
    omega
  have h1:=this (N.take i)
  have h2:(N.take i).length≤i:=by rw [List.length_take]; omega
  have h3:=Nat.mul_le_mul_right 61 h2
  omega
 refine zau (T:=T) (n:=N.length) (A:=GV) (fun _ s=>[(3,s)]) (fun i s _ H'=>LnAt H0 ((N.take i).flatMap (zbe (zcq R))) s H') (c:=20) (b:=0) (I:=19) (N:=18) (d:=65) rfl (by omega) (by decide) ⟨rfl,rfl⟩ (by simp) ?_ ?_ 0 .nilsl _ _ H0 (by omega) ⟨by simpa using App.nil,rfl,rfl,rfl,Nat.le_refl _⟩ (by simp [h3]) (.refl _ _ _) h19 h18
 ·intro i s l g H' hi hL hh hf hI
  have k17:=hf.get 17 rfl h17 (by simp [hv.boxy])
  have k0:=hf.get 0 rfl h0 (by simp [h.el.boxy])
  simp only [zah,zaj,and_true] at hh
  obtain ⟨lt,ix,opt,get,⟨t,sv⟩,_,mem⟩:=zbX (e:=zaJ) hv hi (by omega)
  generalize N[i]'hi=key at opt get mem
  have hkey:=hnm key mem
  have hnx:(N.take (i+1)).flatMap (zbe (zcq R))=(N.take i).flatMap (zbe (zcq R))++zbe (zcq R) key:=by rw [List.take_add_one,opt]; simp
  have hlen:((N.take i).flatMap (zbe (zcq R))).length≤10000:=by
   have:=hfl i (by omega)
   omega
  rw [hnx]
  generalize (N.take i).flatMap (zbe (zcq R))=M at hL hlen
  obtain ⟨vL,q1,q2⟩:=znY h key H'
  have ql:=q2.len
  have qu:=zac q2
  have qo:=q2.ok
  simp only [List.length_map] at ql
  have p1:zcM .add (⟨#[110,111,100,101,32]⟩:ByteArray) (mkB key)=some (.str (mkB ([110,111,100,101,32]++key))):=zc9 (by simp; omega)
  rw [show [110,111,100,101,32]++key=zaE zfM [key] by simp [zaE,Lib.joinTail]] at p1
  have hc0:(zaJ key).cells=[.str (mkB key)]:=rfl
  have vu:=h.el.unb
  have vo:=h.el.ok
  have su:=zac hL.app.elems
  have so:=hL.app.elems.ok
  rw [sv] at k17
  simp [k17,k0,hh,hI,ix,opt,get,hc0,vu,vo,p1,q1,ql,qu,qo]
  rw [zai,zao,zai]
  refine zjx h hok key hkey vL q2 _ _ H' _ (by simp [qu]) (by simp) (by simp) (by simp) ?_
  intro l2 g2 q6 hf2
  have b0:=hf2.get 0 rfl (v:=vr) (by simp [k0]) (by simp [h.el.boxy])
  have b3:=hf2.get 3 rfl (v:=s) (by simp [hh]) (by simp [hL.app.elems.boxy])
  have b5:=hf2.get 5 rfl (v:=.str (mkB key)) (by simp) rfl
  clear hf2
  obtain ⟨s2,H2,a2,L2,o2⟩:=hL.step hbt (by omega) (zei (zcq R) key)
  have wu:=zac L2.app.elems
  obtain ⟨vN,r1,r2⟩:=zj8 h (zaD key) H2
  have rl:=r2.len
  have ru:=zac r2
  have ro:=r2.ok
  simp only [List.length_map] at rl
  simp only [elC,zdN] at r1
  simp only [zaJ] at a2
  simp [b0,b3,b5,q6,zaK,zae,zak,su,so,a2,wu,o2,vu,vo,r1,rl,ru,ro]
  rw [zai]
  refine zk5 h hok key hkey vN r2 (M++[zei (zcq R) key]) (by simp; omega) _ _ H0 hbt s2 H2 L2 _ (by simp [ru]) (by simp) (by simp) (by simp [b0]) (by simp [b5]) (by simp) ?_
  intro l3 g3 H3 s3 q3 L3 hf3
  have e3:M++[zei (zcq R) key]++(zbS R (zaD key)).map (zbV (zcq R) key)=M++zbe (zcq R) key:=by simp [zbe,zcq]
  rw [e3] at L3
  simp [q3,L3]
 ·intro s l g H' hL hh hf
  simp only [zah,zaj,and_true] at hh
  rw [List.take_length] at hL
  exact he l g H' s hh hL hf
theorem zjA (v:GV) (hv:Elems 3 v ((zbR R).map lkG)) (D:List (List UInt8)) (hD:D.length≤10000) (l0:List GV) (g0:Nat) (H0:GH) (hbt:H0.bt≤H0.toks.length) (s0:GV) (H1:GH) (hl0:LnAt H0 D s0 H1) (K:GExit × St→Prop)
 (h67:zad l0 67=v) (h68:zad l0 68=.int .i64 (zbR R).length) (h69:zad l0 69=.int .i64 0) (h0:zad l0 0=vr) (h3:zad l0 3=s0)
 (he:∀ l g H s,zad l 3=s→LnAt H0 (D++(zbR R).flatMap (zbA (zcq R))) s H→Fr zs6 l0 l→K (.exit 6,⟨⟨l,g⟩,H⟩)) :
 optW (erun T (.loop zs6) ⟨⟨l0,g0⟩,H1⟩) K:=by
 have hnl:=hok.lcount
 have hnm:=hok.link
 have hok':=hok
 generalize hNN:zbR R=N at hv h68 he hnl hnm hok'
 have hfl:∀ i,i≤60→((N.take i).flatMap (zbA (zcq R))).length≤i * 61:=fun i hi=>by
  have:∀ (M:List Lk) ,(M.flatMap (zbA (zcq R))).length≤M.length * 61:=fun M=>by
   induction M with
   | nil=>simp
   | cons a M ih =>
    have:=hok.names (zbr a)
    simp only [List.flatMap_cons,List.length_append,List.length_cons,zbA,List.length_map] at ih ⊢
    omega
  have h1:=this (N.take i)
  have h2:(N.take i).length≤i:=by rw [List.length_take]; omega
  have h3:=Nat.mul_le_mul_right 61 h2
  omega
 refine zau (T:=T) (n:=N.length) (A:=GV) (fun _ s=>[(3,s)]) (fun i s _ H'=>LnAt H0 (D++(N.take i).flatMap (zbA (zcq R))) s H') (c:=70) (b:=6) (I:=69) (N:=68) (d:=116) rfl (by omega) (by decide) ⟨rfl,rfl⟩ (by simp) ?_ ?_ 0 s0 _ _ H1 (by omega) (by simpa using hl0) (by simp [h3]) (.refl _ _ _) h69 h68
 ·intro i s l g H' hi hL hh hf hI
  have k67:=hf.get 67 rfl h67 (by simp [hv.boxy])
  have k0:=hf.get 0 rfl h0 (by simp [h.el.boxy])
  simp only [zah,zaj,and_true] at hh
  obtain ⟨lt,ix,opt,get,⟨t,sv⟩,_,mem⟩:=zbX (e:=lkG) hv hi (by omega)
  generalize N[i]'hi=x at opt get mem
  have hx:=hnm x mem
  have hnx:D++(N.take (i+1)).flatMap (zbA (zcq R))=D++(N.take i).flatMap (zbA (zcq R))++zbA (zcq R) x:=by rw [List.take_add_one,opt]; simp
  have hlen:(D++(N.take i).flatMap (zbA (zcq R))).length≤20000:=by
   have:=hfl i (by omega)
   rw [List.length_append]; omega
  rw [hnx]
  generalize D++(N.take i).flatMap (zbA (zcq R))=M at hL hlen
  obtain ⟨x1,x2,x3⟩:=hx
  have p1:zcM .add (mkB x.f) (⟨#[32]⟩:ByteArray)=some (.str (mkB (x.f++[32]))):=zc9 (by simp; omega)
  have p2:zcM .add (mkB (x.f++[32])) (mkB x.y)=some (.str (mkB ((x.f++[32])++x.y))):=zc9 (by simp; omega)
  have p3:zcM .add (mkB ((x.f++[32])++x.y)) (⟨#[32]⟩:ByteArray)=some (.str (mkB (((x.f++[32])++x.y)++[32]))):=zc9 (by simp; omega)
  have p4:zcM .add (mkB (((x.f++[32])++x.y)++[32])) (mkB x.t)=some (.str (mkB ((((x.f++[32])++x.y)++[32])++x.t))):=zc9 (by simp; omega)
  rw [show (((x.f++[32])++x.y)++[32])++x.t=zaE x.f [x.y,x.t] by simp [zaE,Lib.joinTail]] at p4
  have hw:(zaE x.f [x.y,x.t]).length≤4000000:=by simp [zaE,Lib.joinTail]; omega
  have p5:zcM .add (⟨#[101,100,103,101,32]⟩:ByteArray) (mkB (zaE x.f [x.y,x.t]))=some (.str (mkB ([101,100,103,101,32]++zaE x.f [x.y,x.t]))):=zc9 (by rw [List.length_append]; simp only [List.length_cons,List.length_nil]; omega)
  rw [show [101,100,103,101,32]++zaE x.f [x.y,x.t]=zej x by simp [zaE,Lib.joinTail,zej]] at p5
  generalize hC:((x.f++[32])++x.y)++[32]=C at p3 p4
  generalize hB:(x.f++[32])++x.y=B at p2 p3
  generalize hA:x.f++[32]=A at p1 p2
  clear hA hB hC
  obtain ⟨s2,H2,a2,L2,o2⟩:=hL.step hbt (by omega) (zej x)
  have wu:=zac L2.app.elems
  obtain ⟨vN,r1,r2⟩:=zj8 h (zbr x) H2
  have rl:=r2.len
  have ru:=zac r2
  have ro:=r2.ok
  simp only [List.length_map] at rl
  have hlx:(lkC x).length=3:=rfl
  have htx:List.take 3 (lkC x)=lkC x:=rfl
  have hox:(lkC x).all GV.one=true:=rfl
  have hsx:zae [GV.str ⟨#[]⟩,.str ⟨#[]⟩,.str ⟨#[]⟩] 0 (lkC x)=some (lkC x):=rfl
  have x0:∀ h,(lkC x)[0]'h=.str (mkB x.f):=fun _=>rfl
  have y0:∀ h,(lkC x)[1]'h=.str (mkB x.t):=fun _=>rfl
  have z0:∀ h,(lkC x)[2]'h=.str (mkB x.y):=fun _=>rfl
  have hEl:=fun H=>zme x H
  have vu:=h.el.unb
  have vo:=h.el.ok
  have su:=zac hL.app.elems
  have so:=hL.app.elems.ok
  have hle:(elC (zbr x)).length=5:=rfl
  have hte:List.take 5 (elC (zbr x))=elC (zbr x):=rfl
  rw [sv] at k67
  simp only [zaJ] at a2
  simp [k67,k0,hh,hI,ix,opt,get,hlx,htx,hox,hsx,x0,y0,z0,p1,p2,p3,p4,p5,zak,su,so,a2,wu,o2,vu,vo,hEl,r1,rl,ru,ro]
  rw [zai,zai]
  refine zjy h hok x ⟨x1,x2,x3⟩ g vN r2 (M++[zej x]) (by simp; omega) _ _ H0 hbt s2 H2 L2 _ (by simp [ru]) (by simp) (by simp) (by simp [k0]) (by simp) (by simp) (by simp) ?_
  intro l3 g3 H3 s3 q3 L3 hf3
  have e3:M++[zej x]++(zbS R (zbr x)).map (zbl (zcq R) x)=M++zbA (zcq R) x:=by simp [zbA,zcq]
  rw [e3] at L3
  simp [q3,L3]
 ·intro s l g H' hL hh hf
  simp only [zah,zaj,and_true] at hh
  rw [List.take_length] at hL
  exact he l g H' s hh hL hf
theorem zqC (H:GH):∃ v,ecall T zsp [vr] H=some (v,H)∧Elems 1 v ((zj9 (zcq R) (zbR R)).map zaJ):=by
 obtain ⟨vn,c1,c2⟩:=zka h H.over
 have nl:=c2.len
 have nu:=zac c2
 have no:=c2.ok
 have vu:=h.el.unb
 have vo:=h.el.ok
 simp only [List.length_map] at nl
 have goal:optW (ecall T zsp [vr] H) fun r=>∃ v,r=(v,H)∧Elems 1 v ((zj9 (zcq R) (zbR R)).map zaJ):=by
  rw [zbd zE6 rfl (by simp [zs7]),zab]
  simp only [zs7,zB3]
  simp [vu,vo,c1,nl,nu,no]
  rw [zao,zai]
  refine zjz h hok vn c2 _ _ H.over (Nat.le_refl _) _ (by simp [nu]) (by simp) (by simp) (by simp [vu]) (by simp) ?_
  intro l g H1 s k3 hL hf
  have k0:=hf.get 0 rfl (v:=vr) (by simp [vu]) (by simp [h.el.boxy])
  obtain ⟨ve,d1,d2⟩:=zqu h H1
  have el:=d2.len
  have eu:=zac d2
  have eo:=d2.ok
  simp only [List.length_map] at el
  have hln:((zcs R).flatMap (zbe (zcq R))).length≤10000:=by
   have:∀ (M:List (List UInt8)) ,(M.flatMap (zbe (zcq R))).length≤M.length * 61:=fun M=>by
    induction M with
    | nil=>simp
    | cons a M ih =>
     have:=hok.names (zaD a)
     simp only [List.flatMap_cons,List.length_append,List.length_cons,zbe,List.length_map] at ih ⊢
     omega
   have h1:=this (zcs R)
   have h2:=Nat.mul_le_mul_right 61 hok.nodes
   change (zcs R).length * 61≤_ at h2
   omega
  simp [k0,vu,vo,d1,el,eu,eo]
  rw [zao,zai]
  refine zjA h hok ve d2 _ hln _ _ H.over (Nat.le_refl _) s H1 hL _ (by simp [eu]) (by simp) (by simp) (by simp [k0]) (by simp [k3]) ?_
  intro l2 g2 H2 s2 q3 L2 hf2
  have hE:=L2.app.elems
  obtain ⟨v2,f1,f2⟩:=zbG (a:=H.objs.length) (b:=H.toks.length) (n:=99) hE (fun x hx=>by obtain ⟨y,_,rfl⟩:=List.mem_map.1 hx; rfl)
  have su:=zac hE
  have so:=hE.ok
  simp [q3,su,so,f1]
  exact f2
 obtain ⟨r,hr,v,rfl,h2⟩:=goal
 exact ⟨v,hr,h2⟩
end
theorem zhY {R:List Evt} (h:Row R) {x:El} (hx:x∈za0 R):ElFit x:=by
 obtain ⟨e,he,rfl⟩:=((zdC R).2 x).1 hx
 exact (h.fit e he).x
theorem zC2 {R:List Evt} (h:Row R):VwOk (zcq R) (zbR R) where
 nodes:=by
  show (zcs R).length≤60
  unfold zcs
  rw [List.length_map]
  have h2:=List.length_filter_le (fun e:El=>decide (e.k=1)&&zdk R e.a) (za0 R)
  have h3:=zb0 R
  have h4:=h.le
  omega
 node:=fun k hk=>by
  change k∈zcs R at hk
  obtain ⟨e,he,rfl⟩:=List.mem_map.1 hk
  exact (zhY h (List.mem_filter.1 he).1).a
 labels:=fun k=>zqx h k
 label:=fun k l hl=>by
  change l∈zcf R k at hl
  obtain ⟨e,he,rfl⟩:=List.mem_map.1 hl
  exact (zhY h (List.mem_filter.1 he).1).d
 names:=fun o=>zud h o
 name:=fun o l hl=>by
  change l∈zbS R o at hl
  obtain ⟨e,he,rfl⟩:=List.mem_map.1 hl
  exact (zhY h (List.mem_filter.1 he).1).d
 values:=fun z=>zqw h z
 value:=fun z v hv=>zhw h z v hv
 lcount:=zt9 h
 link:=fun x hx=>by
  obtain ⟨_,e,he,_,rfl⟩:=zt8 h hx
  have:=zhY h he
  exact ⟨this.a,this.b,this.c⟩
theorem zk6 (E:List Evt) (hE:E.length≤9223372036854775807) (hin:∀ e∈E,EvIn e) (ve:GV) (hve:Elems 27 ve (E.map evG)) (H:GH) (hbo:H.bo≤H.objs.length) (hbt:H.bt≤H.toks.length) :
 ∃ H',ecall T2 zlR [ve] H=some (.bool true,H'):=by
 have hfx:=zt4
 obtain ⟨fb,hfew,hfb⟩:=zC1 E hE (fun e he=>(hin e he).big) ve hve H
 have hfew:=up hfew
 have goal:optW (ecall T2 zlR [ve] H) fun r=>∃ H',r=(.bool true,H'):=by
  rw [zag (zsc _ _ zCJ) rfl (by simp [zsJ]),zab]
  simp only [zsJ,zBS]
  have hue:=zac hve
  have hok:=hve.ok
  cases fb with
  | false=>simp [hfx,hue,hok,hfew]
  | true =>
   obtain ⟨hl60,hsh⟩:=hfb rfl
   have hfit:∀ e∈E,EvFit e:=fun e he=>(hin e he).fit (hsh e he)
   obtain ⟨vr,H1,hca,hG⟩:=zqM E (by omega) hfit ve hve H hbt
   have hca:=up hca
   have hrow:=zBM hl60 hfit
   have hcl:=(zg8 E).2
   generalize (zbw E).1=R at hrow hG
   generalize (zbw E).2=kv at hcl hca
   have hrok:=hG.ok
   have hre:=hG.app.elems
   have hru:=zac hre
   have hbo1:H1.bo≤H1.objs.length:=by rw [hG.step.objs,hG.step.bo]; exact hbo
   have hbt1:H1.bt≤H1.toks.length:=hG.step.btle hbt
   have hone:∀ z:List GV,z.length=16→zae z 0 (kv.map zjg)=some (kv.map zjg):=fun z hz=>by
    simp only [zae,hz,List.length_map,hcl]; simp [hcl,hz]
   have ho2:kv.all (GV.one ∘ zjg)=true:=by rw [List.all_eq_true]; intros; rfl
   have t3:List.take 16 kv=kv:=List.take_of_length_le (by omega)
   obtain ⟨n,H2,hvw,hV,hB,hn1,hn2,hbt2,hbo2⟩:=zz3 hrow vr hre H1 hbo1 hbt1
   have hV':VDone H2 n (zcq R) (zbR R) (fun a=>(zbR R).filter fun x=>decide (x.f=a)) (fun a=>(zbR R).filter fun x=>decide (x.t=a)):=by
    rw [← zxC hrow]; exact hV
   have hvr:RowV R vr:=⟨hrow,hre⟩
   have hdo:=zC2 hrow
   obtain ⟨va,ca,ha⟩:=zqB hdo hV'
   obtain ⟨vb,cb,hb⟩:=zqC hvr hdo H2
   have hln:(zj9 (zcq R) (zbR R)).length≤100000:=by
    have h1:∀ (M:List (List UInt8)) ,(M.flatMap (zbe (zcq R))).length≤M.length * 61:=fun M=>by
     induction M with
     | nil=>simp
     | cons a M ih =>
      have:=hdo.names (zaD a)
      simp only [List.flatMap_cons,List.length_append,List.length_cons,zbe,List.length_map] at ih ⊢
      omega
    have h2:∀ (M:List Lk) ,(M.flatMap (zbA (zcq R))).length≤M.length * 61:=fun M=>by
     induction M with
     | nil=>simp
     | cons a M ih =>
      have:=hdo.names (zbr a)
      simp only [List.flatMap_cons,List.length_append,List.length_cons,zbA,List.length_map] at ih ⊢
      omega
    have h3:=h1 (zcq R).nodes
    have h4:=h2 (zbR R)
    have h5:=Nat.mul_le_mul_right 61 hdo.nodes
    have h6:=Nat.mul_le_mul_right 61 hdo.lcount
    unfold zj9
    rw [List.length_append]
    omega
   have cs:=zuc _ hln va vb ha hb H2
   obtain ⟨na,cna,hna⟩:=zj5 hV' (by have:=hdo.nodes; omega)
   obtain ⟨nb,cnb,hnb⟩:=zka hvr H2
   have hnn:(zcs R).length≤100000:=Nat.le_trans hdo.nodes (by decide)
   have cn:=zuc _ hnn na nb hna hnb H2
   have ca:=up ca
   have cb:=up cb
   have cs:=up cs
   have cna:=up cna
   have cnb:=up cnb
   have cn:=up cn
   have a2:=zac ha
   have a3:=ha.ok
   have b2:=zac hb
   have b3:=hb.ok
   have na2:=zac hna
   have na3:=hna.ok
   have nb2:=zac hnb
   have nb3:=hnb.ok
   simp [hfx,hue,hok,hfew,hca,hrok,hru,hcl,hone,ho2,t3,hvw,ca,cb,cs,cna,cnb,cn,a2,a3,b2,b3,na2,na3,nb2,nb3]
 obtain ⟨r,h,H',rfl⟩:=goal
 exact ⟨H',h⟩
open Go.Sh Go.ChangeShapes Go.WideShapes Go.ChangeAt Go.RowKit
theorem zim (gargs:List GV) (h:ArgsFit [.slice zEm] gargs):∃ H',ecall T2 zlR gargs (znn Tryz.prog.globals.size)=some (.bool true,H'):=by
 cases h with
 | cons h1 t1 =>
  cases t1
  obtain ⟨E,hE,he,hel⟩:=zvI (f:=evG) (fun c hc=>zAa hc) h1
  exact zk6 E (by unfold maxLen at hel; omega) he _ hE _ (by simp [znn]) (by simp [znn])
end Go.Proofs.YtchjbidfmhmmhaaGreatDoor
