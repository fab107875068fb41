/- Own work: the zaO machine and what it shows, part Gx. -/
import Derived.Test.YtchjbidfmhmmhaaGreatDoorGw
import Derived.Test.YtchjbidfmhmmhaaGreatDoorAl
set_option linter.all false
namespace Go.Proofs.YtchjbidfmhmmhaaGreatDoor
open Go.Sh
set_option maxHeartbeats 4000000
set_option maxRecDepth 100000
theorem zbG {a b n:Nat} {sz:Nat} {v:GV} {xs:List GV} (hv:Elems sz v xs) (h:∀ x∈xs,zaM a b n x=some x):∃ v',zaM a b (n+1) v=some v'∧Elems sz v' xs:=by
 cases hv with
 | nil=>exact ⟨.nilsl,rfl,.nil⟩
 | sl _ t =>
  have:=zdf a b n xs h
  exact ⟨_,by show (xs.mapM (zaM a b n)).map _=_; rw [this]; rfl,.sl _ _⟩
theorem zt3 {v:GV} {xs:List GV} (hv:Elems 1 v xs) (hl:xs.length≤10000) (H:GH) (hbt:H.bt≤H.toks.length):∃ v' H',ecall T zw2 [v] H=some (v',H')∧Elems 1 v' xs∧TokStep none H H':=by
 cases hv with
 | nil =>
  refine ⟨.nilsl,H, ?_,.nil,.refl _ _⟩
  apply optW.eq
  rw [zag zCN rfl (by simp [znK]),zab]
  simp [znK,zzS]
 | sl xs t =>
  obtain ⟨s',H',a1,a2,a3,a4⟩:=zgK (H:=H) (ty:=9) (sz:=1) (bytes:=16) (s:=.sl 1 [] .exact) (x:=.sl 1 xs t) (.exact []) (ys:=xs) (by simp [zbB]) hbt (by simp [zdu]; omega) (by simp [maxLen]; omega)
  have e1:=a2.elems.unb
  have e2:=a2.ok
  refine ⟨s',H', ?_,by simpa using a2.elems,a3⟩
  apply optW.eq
  rw [zag zCN rfl (by simp [znK]),zab]
  simp [znK,zzS,zak,a1,e1,e2]
theorem zxw {v:GV} {xs:List GV} (hv:Elems 3 v xs) (hl:xs.length≤10000) (H:GH) (hbt:H.bt≤H.toks.length):∃ v' H',ecall T zw3 [v] H=some (v',H')∧Elems 3 v' xs∧TokStep none H H':=by
 cases hv with
 | nil =>
  refine ⟨.nilsl,H, ?_,.nil,.refl _ _⟩
  apply optW.eq
  rw [zag zCO rfl (by simp [znL]),zab]
  simp [znL,zzT]
 | sl xs t =>
  obtain ⟨s',H',a1,a2,a3,a4⟩:=zgK (H:=H) (ty:=73) (sz:=3) (bytes:=48) (s:=.sl 3 [] .exact) (x:=.sl 3 xs t) (.exact []) (ys:=xs) (by simp [zbB]) hbt (by simp [zdu]; omega) (by simp [maxLen]; omega)
  have e1:=a2.elems.unb
  have e2:=a2.ok
  refine ⟨s',H', ?_,by simpa using a2.elems,a3⟩
  apply optW.eq
  rw [zag zCO rfl (by simp [znL]),zab]
  simp [znL,zzT,zak,a1,e1,e2]
section
variable {H:GH} {n:Nat} {w:Vw} {links:List Lk} {outs ins:List UInt8→List Lk}
theorem zj5 (hV:VDone H n w links outs ins) (hl:w.nodes.length≤1000):∃ v,ecall T zp4 [.ptr (n+6) 0] H=some (v,H)∧Elems 1 v (w.nodes.map zaJ):=by
 obtain ⟨vn,vl,h6,hn,_⟩:=hV.obj
 obtain ⟨v',H',c1,c2,_⟩:=zt3 hn (by rw [List.length_map]; omega) H.over (Nat.le_refl _)
 obtain ⟨v2,d1,d2⟩:=zbG (a:=H.objs.length) (b:=H.toks.length) (n:=99) c2 (fun x hx=>by obtain ⟨y,_,rfl⟩:=List.mem_map.1 hx; rfl)
 refine ⟨v2, ?_,d2⟩
 apply optW.eq
 rw [zbd zE7 rfl (by simp [zs8]),zab]
 simp [zs8,zB4,h6,hn.unb,hn.ok,c1,c2.unb,c2.ok,d1]
theorem zqr (hV:VDone H n w links outs ins) (hl:links.length≤1000):∃ v,ecall T zsq [.ptr (n+6) 0] H=some (v,H)∧Elems 3 v (links.map lkG):=by
 obtain ⟨vn,vl,h6,_,hn⟩:=hV.obj
 obtain ⟨v',H',c1,c2,_⟩:=zxw hn (by rw [List.length_map]; omega) H.over (Nat.le_refl _)
 obtain ⟨v2,d1,d2⟩:=zbG (a:=H.objs.length) (b:=H.toks.length) (n:=99) c2 (fun x hx=>by obtain ⟨y,_,rfl⟩:=List.mem_map.1 hx; rfl)
 refine ⟨v2, ?_,d2⟩
 apply optW.eq
 rw [zbd zE9 rfl (by simp [zta]),zab]
 simp [zta,zB7,h6,hn.unb,hn.ok,c1,c2.unb,c2.ok,d1]
end
theorem zqs (H:GH):zbI T2 3000 zwW [] H=some (.bool true,H):=by kernel_rfl
theorem zt4 (H:GH):ecall T2 zwW [] H=some (.bool true,H):=ecall_iff.2 ⟨3000,zqs H⟩
theorem zxx (E:List Evt) (hE:E.length≤9223372036854775807) (hbig:∀ e∈E,EvBig e) (ve:GV) (hve:Elems 27 ve (E.map evG)) (l0:List GV) (g0:Nat) (H0:GH) (K:GExit × St→Prop)
 (h5:zad l0 5=ve) (h6:zad l0 6=.int .i64 E.length) (h7:zad l0 7=.int .i64 0) (h0:zad l0 0=ve)
 (he:∀ l g,zad l 0=ve→(∀ e∈E,zjE e.x+e.vt.length≤300)→K (.exit 0,⟨⟨l,g⟩,H0⟩))
 (hr:∀ l g,zad l 2=.bool false→K (.ret,⟨⟨l,g⟩,H0⟩)) :
 optW (erun T (.loop zzb) ⟨⟨l0,g0⟩,H0⟩) K:=by
 refine zau (T:=T) (n:=E.length) (A:=Unit) (fun _ _=>[(0,ve)]) (fun i _ _ H'=>H'=H0∧∀ e∈E.take i,zjE e.x+e.vt.length≤300) (c:=8) (b:=0) (I:=7) (N:=6) (d:=14) rfl (by omega) (by decide) ⟨rfl,rfl⟩ (by simp) ?_ ?_ 0 () _ _ H0 (by omega) ⟨rfl,by simp⟩ (by simp [h0]) (.refl _ _ _) h7 h6
 ·intro i a l g H' hi ⟨hH,hall⟩ hh hf hIx
  subst hH
  have h5':=hf.get 5 rfl h5 (by simp [hve.boxy])
  obtain ⟨lt,ix,opt,get,⟨t,sv⟩,wr_,mem⟩:=zbX (e:=evG) hve hi (by omega)
  generalize E[i]'hi=e at opt get mem
  have hfe:=hbig e mem
  have hsh:=fun H=>zuB e hfe H
  have l1:=zc8 hfe.past
  have l4:List.take 27 (evC e)=evC e:=List.take_of_length_le (by rw [l1]; exact Nat.le_refl _)
  have lo:=zht hfe.past
  have sp:=zir hfe.past
  have htake:E.take (i+1)=E.take i++[e]:=by rw [List.take_add_one,opt]; rfl
  rw [sv] at h5'
  simp only [zah,zaj,and_true] at hh
  by_cases hs:zjE e.x+e.vt.length≤300
  ·simp [h5',hIx,ix,opt,get,sp,l1,l4,lo,hsh,hs,hh]
   intro _ e' he'
   rw [htake] at he'
   rcases List.mem_append.1 he' with he' | he'
   ·exact hall e' he'
   ·rw [List.mem_singleton] at he'; subst he'; exact hs
  ·simp [h5',hIx,ix,opt,get,sp,l1,l4,lo,hsh,hs]
   exact fun _=>hr _ _ (by simp)
 ·intro a l g H' ⟨hH,hall⟩ hh hf
  subst hH
  rw [List.take_length] at hall
  simp only [zah,zaj,and_true] at hh
  exact he l g hh hall
theorem zC1 (E:List Evt) (hE:E.length≤9223372036854775807) (hbig:∀ e∈E,EvBig e) (ve:GV) (hve:Elems 27 ve (E.map evG)) (H:GH) :
 ∃ b,ecall T zsm [ve] H=some (.bool b,H)∧(b=true→E.length≤60∧∀ e∈E,zjE e.x+e.vt.length≤300):=by
 have le:=hve.len
 have ue:=zac hve
 have oe:=hve.ok
 simp only [List.length_map] at le
 have key:optW (ecall T zsm [ve] H) fun r=>∃ b,r=(.bool b,H)∧(b=true→E.length≤60∧∀ e∈E,zjE e.x+e.vt.length≤300):=by
  rw [zag zE2 rfl (by simp [zsT]),zab]
  simp only [zsT,zBZ]
  simp [le,ue,oe]
  rw [zao,zai]
  refine zxx E hE hbig ve hve _ _ H _ (by simp [ue]) (by simp) (by simp) (by simp) ?_ ?_
  ·intro l g k0 hs
   simp [k0,le,ue,oe]
   rcases Nat.lt_or_ge 50 E.length with h | h
   ·exact .inl (by omega)
   ·exact .inr ⟨by omega,by omega,hs⟩
  ·intro l g k2
   simp [k2]
 obtain ⟨r,h,b,rfl,h2⟩:=key
 exact ⟨b,h,h2⟩
theorem zz1 {R:List Evt} (hR:Row R) (vr:GV) (hvr:Elems 27 vr (R.map evG)) (s m:Nat) (l0:List GV) (g0:Nat) (H0:GH) (hS:Sto H0 s m []) (hbo:H0.bo≤H0.objs.length) (K:GExit × St→Prop)
 (h7:zad l0 7=vr) (h8:zad l0 8=.int .i64 R.length) (h9:zad l0 9=.int .i64 0) (h3:zad l0 3=.ptr s 0)
 (he:∀ l g H,Sto H s m (zbK R)→Stepm m H0 H→Fr zsU l0 l→K (.exit 0,⟨⟨l,g⟩,H⟩)) :
 optW (erun T2 (.loop zsU) ⟨⟨l0,g0⟩,H0⟩) K:=by
 have hle:=hR.le
 refine zau (T:=T2) (n:=R.length) (A:=Unit) (fun _ _=>[]) (fun i _ _ H'=>Sto H' s m (zbK (R.take i))∧Stepm m H0 H') (c:=10) (b:=0) (I:=9) (N:=8) (d:=16) rfl (by omega) (by decide) ⟨rfl,rfl⟩ (by simp) ?_ ?_ 0 () _ _ H0 (by omega) ⟨hS,.refl _ _⟩ (by simp) (.refl _ _ _) h9 h8
 ·intro i a l g H' hi ⟨hA,hSt⟩ hh hf hI
  have k7:=hf.get 7 rfl h7 (by simp [hvr.boxy])
  have k3:=hf.get 3 rfl h3 rfl
  obtain ⟨lt,ix,opt,get,⟨t,sv⟩,wr_,mem⟩:=zbX (e:=evG) hvr hi (by omega)
  generalize R[i]'hi=e at opt get mem
  have hfe:=hR.fit e mem
  have l1:=zc8 hfe.past
  have l4:List.take 27 (evC e)=evC e:=List.take_of_length_le (by rw [l1]; exact Nat.le_refl _)
  have lo:=zht hfe.past
  have sp:=zir hfe.past
  obtain ⟨H1,hd,hA1,hSt1⟩:=hR.step opt hA (hSt.bole hbo)
  rw [sv] at k7
  simp [k7,k3,hI,ix,opt,get,sp,l1,l4,lo,hd]
  exact fun _=>⟨hA1,hSt.trans hSt1⟩
 ·intro a l g H' ⟨hA,hSt⟩ hh hf
  rw [List.take_length] at hA
  exact he l g H' hA hSt hf
theorem zt5 {R:List Evt} (h:Row R) {H:GH} {s m:Nat} (hS:Sto H s m (zbK R)):(zfh (zbK R)).map (·.1)=zct R:=by
 rw [zxK h hS]
 unfold zld zct
 rw [List.map_map]
 have:((fun x:Stp=>x.1) ∘ fun x=>(x,zce (zbK R) x))=id:=rfl
 rw [this,List.map_id]
 refine List.filter_congr fun x _=>?_
 unfold zxI zfD
 have hp:=zlb h x
 cases hl:zgR R x with
 | nil=>rw [hl] at hp; simp only [List.map_nil] at hp; rw [List.perm_nil.1 hp]; simp
 | cons a l =>
  rw [hl] at hp
  have:zce (zbK R) x≠[]:=fun e=>by rw [e] at hp; have:=hp.length_eq; simp at this
  simp [this]
theorem zpf {R:List Evt} (h:Row R):zmc R (zcj (zbK R)):=by
 intro x
 obtain ⟨h1,h2,_⟩:=zy9 (zbK R) x
 refine ⟨h1,fun v=>?_⟩
 rw [h2]
 have hp:=(zlb h x).map ze6
 rw [List.map_map] at hp
 exact hp.mem_iff
abbrev zik (R:List Evt):Vw:=zaG (zcj (zbK R)) (zct R) (zct R)
def zzh (H:GH) (n:Nat) (R:List Evt):Prop:=VDone H n (zik R) (zbR R) (fun a=>(zbR R).filter fun x=>decide (x.f=a)) (fun a=>(zbR R).filter fun x=>decide (x.t=a))
theorem zz2 {R:List Evt} (h:Row R) {H:GH} {s m:Nat} (hS:Sto H s m (zbK R)):∀ p∈zfh (zbK R),SeeOk (zbK R) p.1:=by
 intro p hp
 have hg:=h.good
 have hp':=(zjM _).mem_iff.1 hp
 have hne:zce (zbK R) p.1≠[]:=by rw [zo2 hS.ap hp']; exact hS.ne_nil p hp'
 obtain ⟨h1,h2⟩:=hg.el p.1 hne
 have hr:=zkx h1
 refine ⟨⟨?_, ?_, ?_, ?_⟩,zgm h2 hr, ?_,h1⟩
 ·have:=h2.a; omega
 ·have:=h2.b; omega
 ·have:=h2.c; omega
 ·have:=h2.d; omega
 ·have:=hg.len p.1; have:=h.le; omega
theorem zz3 {R:List Evt} (hR:Row R) (vr:GV) (hvr:Elems 27 vr (R.map evG)) (H:GH) (hbo:H.bo≤H.objs.length) (hbt:H.bt≤H.toks.length) :
 ∃ n H',ecall T2 zsn [vr] H=some (.ptr (n+6) 0,H')∧zzh H' n R∧Below H.objs.length H H'∧H.objs.length≤n∧n+7≤H'.objs.length∧H'.bt≤H'.toks.length∧H'.bo=H.bo:=by
 have n1:=zBN H
 have s1:=Sto.new H hbo
 have m1:=zwG H
 have hlt:H.objs.length+2≤(zpU H).objs.length:=by simp [zpU]
 have hk1:∀ i,i<H.objs.length→(zpU H).objs[i]?=H.objs[i]?:=fun i hi=>List.getElem?_append_left hi
 have hbt1:(zpU H).bt≤(zpU H).toks.length:=hbt
 have hbo':(zpU H).bo=H.bo:=rfl
 have hbt':(zpU H).bt=H.bt:=rfl
 have e1:=hvr.len
 have e2:=hvr.unb
 have e3:=hvr.ok
 simp only [List.length_map] at e1
 have key:optW (ecall T2 zsn [vr] H) fun r=>∃ n H',r=(.ptr (n+6) 0,H')∧zzh H' n R∧Below H.objs.length H H'∧H.objs.length≤n∧n+7≤H'.objs.length∧H'.bt≤H'.toks.length∧H'.bo=H.bo:=by
  rw [zag (zsc _ _ zE3) rfl (by simp [zsV]),zab]
  simp only [zsV,zB0]
  generalize hHn:zpU H=H1 at n1 s1 m1 hlt hk1 hbt1 hbo' hbt'
  have hbo1:H1.bo≤H1.objs.length:=by rw [m1.bo]; exact Nat.le_trans hbo m1.len
  simp [n1,e1,e2,e3]
  rw [zao,zai]
  refine zz1 hR vr hvr (H.objs.length+1) H.objs.length _ _ H1 s1 hbo1 _ (by simp [e2]) (by simp) (by simp) (by simp) ?_
  intro l g H2 hS hSt hf
  have k3:=hf.get 3 rfl (v:=.ptr (H.objs.length+1) 0) (by simp) rfl
  have hsz:=hR.good.size
  have hle:=hR.le
  obtain ⟨H3,c1,c2,c3,c4,c5⟩:=zxv hS (by omega) (zz2 hR hS) (hSt.bole hbo1) (by rw [hSt.bt,hSt.toks]; exact hbt1)
  rw [zt5 hR hS,zy5 _ (ztU R),(zg4 hR _).1] at c2
  simp [k3,c1]
  have hb3:H3.bo=H.bo:=by rw [c3.bo,hSt.bo,hbo']
  refine ⟨H2.objs.length,H3,⟨rfl,rfl⟩,c2,⟨hb3,by rw [c3.bt,hSt.bt,hbt'],fun i hi=>?_⟩, ?_,c5,c4,hb3⟩
  ·have hl2:=hSt.len
   rw [c3.keep i (by omega)]
   obtain ⟨o,ho⟩:∃ o,H1.objs[i]?=some o:=⟨_,List.getElem?_eq_getElem (by omega)⟩
   rw [hSt.keep i o (by omega) ho,← hk1 i hi,ho]
  ·have hl2:=hSt.len; omega
 obtain ⟨r,hr,n,H',rfl,h⟩:=key
 exact ⟨n,H',hr,h⟩
end Go.Proofs.YtchjbidfmhmmhaaGreatDoor
