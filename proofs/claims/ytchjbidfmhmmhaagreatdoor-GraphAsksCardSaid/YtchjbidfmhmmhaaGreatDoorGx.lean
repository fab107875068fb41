/- Own work: the zaN machine and what it shows, part Gx. -/
import Derived.Test.YtchjbidfmhmmhaaGreatDoorGw
import Derived.Test.YtchjbidfmhmmhaaGreatDoorAl
set_option linter.all false
namespace Go.Proofs.YtchjbidfmhmmhaaGreatDoor
open Go.Sh
set_option maxHeartbeats 4000000
set_option maxRecDepth 100000
theorem zcn {a b n:Nat} {sz:Nat} {v:GV} {xs:List GV} (hv:Elems sz v xs) (h:∀ x∈xs,zaJ a b n x=some x):∃ v',zaJ a b (n+1) v=some v'∧Elems sz v' xs:=by
  cases hv with
  | nil=>exact ⟨.nilsl,rfl,.nil⟩
  | sl _ t =>
    have:=zcT a b n xs h
    exact ⟨_,by show (xs.mapM (zaJ a b n)).map _=_; rw [this]; rfl,.sl _ _⟩
theorem zkZ {v:GV} {xs:List GV} (hv:Elems 1 v xs) (hl:xs.length≤10000) (H:GH) (hbt:H.bt≤H.toks.length):∃ v' H',ecall T zoB [v] H=some (v',H')∧Elems 1 v' xs∧TokStep none H H':=by
  cases hv with
  | nil =>
    refine ⟨.nilsl,H, ?_,.nil,.refl _ _⟩
    apply optW.eq
    rw [zad zAs rfl (by simp [zml]),zab]
    simp [zml,zxt]
  | sl xs t =>
    obtain ⟨s',H',a1,a2,a3,a4⟩:=zf8 (H:=H) (ty:=9) (sz:=1) (bytes:=16) (s:=.sl 1 [] .exact) (x:=.sl 1 xs t) (.exact []) (ys:=xs) (by simp [zbG]) hbt (by simp [zdY]; omega) (by simp [maxLen]; omega)
    have e1:=a2.elems.unb
    have e2:=a2.ok
    refine ⟨s',H', ?_,by simpa using a2.elems,a3⟩
    apply optW.eq
    rw [zad zAs rfl (by simp [zml]),zab]
    simp [zml,zxt,zam,a1,e1,e2]
theorem zvn {v:GV} {xs:List GV} (hv:Elems 3 v xs) (hl:xs.length≤10000) (H:GH) (hbt:H.bt≤H.toks.length):∃ v' H',ecall T zuW [v] H=some (v',H')∧Elems 3 v' xs∧TokStep none H H':=by
  cases hv with
  | nil =>
    refine ⟨.nilsl,H, ?_,.nil,.refl _ _⟩
    apply optW.eq
    rw [zad zAt rfl (by simp [zmm]),zab]
    simp [zmm,zxu]
  | sl xs t =>
    obtain ⟨s',H',a1,a2,a3,a4⟩:=zf8 (H:=H) (ty:=34) (sz:=3) (bytes:=32) (s:=.sl 3 [] .exact) (x:=.sl 3 xs t) (.exact []) (ys:=xs) (by simp [zbG]) hbt (by simp [zdY]; omega) (by simp [maxLen]; omega)
    have e1:=a2.elems.unb
    have e2:=a2.ok
    refine ⟨s',H', ?_,by simpa using a2.elems,a3⟩
    apply optW.eq
    rw [zad zAt rfl (by simp [zmm]),zab]
    simp [zmm,zxu,zam,a1,e1,e2]
section
variable {H:GH} {n:Nat} {w:Vw} {links:List Lk} {outs ins:List UInt8→List Lk}
theorem zmz (hV:VDone H n w links outs ins) (a:List UInt8) (ha:a.length≤1125899906842624) (hl:(w.labels a).length≤1000):∃ v,ecall T zuL [.ptr (n+6) 0,.str (mkB a)] H=some (v,H)∧Elems 1 v ((w.labels a).map zbs):=by
  obtain ⟨vn,vl,h6,_,_⟩:=hV.obj
  obtain ⟨es,h0,hM⟩:=hV.labels
  have hk:=zjR a ha
  have hn:=hM.at_ a hk
  generalize hv:(zaZ es (zbs a)).getD .nilsl=v0 at hn
  simp only [zbs] at hv hk
  obtain ⟨v',H',c1,c2,_⟩:=zkZ hn (by rw [List.length_map]; omega) H.over (Nat.le_refl _)
  obtain ⟨v2,d1,d2⟩:=zcn (a:=H.objs.length) (b:=H.toks.length) (n:=99) c2 (fun x hx=>by obtain ⟨y,_,rfl⟩:=List.mem_map.1 hx; rfl)
  refine ⟨v2, ?_,d2⟩
  apply optW.eq
  rw [zbp zCP rfl (by simp [zri]),zab]
  simp [zri,zzO,h6,h0,hk,hv,hn.unb,hn.ok,c1,c2.unb,c2.ok,d1]
theorem zmA (hV:VDone H n w links outs ins) (x:El) (hk:zay true kLs (elG x)=true) (hl:(w.values x).length≤1000):∃ v,ecall T zuM [.ptr (n+6) 0,.agg (elC x)] H=some (v,H)∧Elems 3 v ((w.values x).map vlG):=by
  obtain ⟨vn,vl,h6,_,_⟩:=hV.obj
  obtain ⟨es,h0,hM⟩:=hV.values
  have hn:=hM.at_ x hk
  generalize hv:(zaZ es (elG x)).getD .nilsl=v0 at hn
  obtain ⟨v',H',c1,c2,_⟩:=zvn hn (by rw [List.length_map]; omega) H.over (Nat.le_refl _)
  obtain ⟨v2,d1,d2⟩:=zcn (a:=H.objs.length) (b:=H.toks.length) (n:=99) c2 (fun x hx=>by obtain ⟨y,_,rfl⟩:=List.mem_map.1 hx; rfl)
  refine ⟨v2, ?_,d2⟩
  have hl5:(elC x).length=5:=rfl
  have ht5:List.take 5 (elC x)=elC x:=rfl
  apply optW.eq
  rw [zbp zCQ rfl (by simp [zrj]),zab]
  simp [zrj,zzP,h6,h0,hk,hv,hl5,ht5,hn.unb,hn.ok,c1,c2.unb,c2.ok,d1]
theorem zoZ (hV:VDone H n w links outs ins) (x:El) (hk:zay true kLs (elG x)=true) (hl:(w.names x).length≤1000):∃ v,ecall T zuN [.ptr (n+6) 0,.agg (elC x)] H=some (v,H)∧Elems 1 v ((w.names x).map zbs):=by
  obtain ⟨vn,vl,h6,_,_⟩:=hV.obj
  obtain ⟨es,h0,hM⟩:=hV.names
  have hn:=hM.at_ x hk
  generalize hv:(zaZ es (elG x)).getD .nilsl=v0 at hn
  obtain ⟨v',H',c1,c2,_⟩:=zkZ hn (by rw [List.length_map]; omega) H.over (Nat.le_refl _)
  obtain ⟨v2,d1,d2⟩:=zcn (a:=H.objs.length) (b:=H.toks.length) (n:=99) c2 (fun x hx=>by obtain ⟨y,_,rfl⟩:=List.mem_map.1 hx; rfl)
  refine ⟨v2, ?_,d2⟩
  have hl5:(elC x).length=5:=rfl
  have ht5:List.take 5 (elC x)=elC x:=rfl
  apply optW.eq
  rw [zbp zCW rfl (by simp [zrq]),zab]
  simp [zrq,zzU,h6,h0,hk,hv,hl5,ht5,hn.unb,hn.ok,c1,c2.unb,c2.ok,d1]
theorem zvo (hV:VDone H n w links outs ins) (a:List UInt8) (ha:a.length≤1125899906842624):ecall T zqN [.ptr (n+6) 0,.str (mkB a)] H=some (.bool (w.there (zaT a)),H):=by
  obtain ⟨vn,vl,h6,_,_⟩:=hV.obj
  obtain ⟨es,h0,hM⟩:=hV.there
  have hk:=zfF a ha
  have hn:=hM.at_ (zaT a) hk
  have gN:=fun H=>zdd a H
  apply optW.eq
  rw [zbp zCO rfl (by simp [zrh]),zab]
  simp [zrh,zzM,h6,h0,hk,hn,gN]
theorem zk0 (hV:VDone H n w links outs ins) (x:Lk) (hk:zay true kLs (elG (zcM x))=true):ecall T zqP [.ptr (n+6) 0,.agg (lkC x)] H=some (.bool (w.there (zcM x)),H):=by
  obtain ⟨vn,vl,h6,_,_⟩:=hV.obj
  obtain ⟨es,h0,hM⟩:=hV.there
  have hn:=hM.at_ (zcM x) hk
  have gN:=fun H=>zi7 x H
  have hl5:(lkC x).length=3:=rfl
  have ht5:List.take 3 (lkC x)=lkC x:=rfl
  apply optW.eq
  rw [zbp zCU rfl (by simp [zrp]),zab]
  simp [zrp,zzT,h6,h0,hk,hn,gN,hl5,ht5]
end
end Go.Proofs.YtchjbidfmhmmhaaGreatDoor
namespace Go.Proofs.YtchjbidfmhmmhaaGreatDoor
open Go.Sh
set_option maxRecDepth 100000
theorem zo0 (H:GH):zbv T2 3000 zuK [] H=some (.bool true,H):=by kernel_rfl
theorem zrZ (H:GH):ecall T2 zuK [] H=some (.bool true,H):=ecall_iff.2 ⟨3000,zo0 H⟩
end Go.Proofs.YtchjbidfmhmmhaaGreatDoor
namespace Go.Proofs.YtchjbidfmhmmhaaGreatDoor
open Go.Sh
set_option maxHeartbeats 4000000
set_option maxRecDepth 100000
theorem zvp (E:List Evt) (hE:E.length≤9223372036854775807) (hbig:∀ e∈E,EvBig e) (ve:GV) (hve:Elems 27 ve (E.map evG)) (l0:List GV) (g0:Nat) (H0:GH) (K:GExit × St→Prop)
    (h5:zae l0 5=ve) (h6:zae l0 6=.int .i64 E.length) (h7:zae l0 7=.int .i64 0) (h0:zae l0 0=ve)
    (he:∀ l g,zae l 0=ve→(∀ e∈E,ziP e.x+e.vt.length≤300)→K (.exit 0,⟨⟨l,g⟩,H0⟩))
    (hr:∀ l g,zae l 2=.bool false→K (.ret,⟨⟨l,g⟩,H0⟩)) :
    optW (erun T (.loop zwU) ⟨⟨l0,g0⟩,H0⟩) K:=by
  refine zaV (T:=T) (n:=E.length) (A:=Unit) (fun _ _=>[(0,ve)]) (fun i _ _ H'=>H'=H0∧∀ e∈E.take i,ziP e.x+e.vt.length≤300) (c:=8) (b:=0) (I:=7) (N:=6) (d:=14) rfl (by omega) (by decide) ⟨rfl,rfl⟩ (by simp) ?_ ?_ 0 () _ _ H0 (by omega) ⟨rfl,by simp⟩ (by simp [h0]) (.refl _ _ _) h7 h6
  · intro i a l g H' hi ⟨hH,hall⟩ hh hf hIx
    subst hH
    have h5':=hf.get 5 rfl h5 (by simp [hve.boxy])
    obtain ⟨lt,ix,opt,get,⟨t,sv⟩,wr_,mem⟩:=zc1 (e:=evG) hve hi (by omega)
    generalize E[i]'hi=e at opt get mem
    have hfe:=hbig e mem
    have hsh:=fun H=>zsn e hfe H
    have l1:=zcN hfe.past
    have l4:List.take 27 (evC e)=evC e:=List.take_of_length_le (by rw [l1]; exact Nat.le_refl _)
    have lo:=zgP hfe.past
    have sp:=zhJ hfe.past
    have htake:E.take (i+1)=E.take i++[e]:=by rw [List.take_add_one,opt]; rfl
    rw [sv] at h5'
    simp only [zax,zaE,and_true] at hh
    by_cases hs:ziP e.x+e.vt.length≤300
    · simp [h5',hIx,ix,opt,get,sp,l1,l4,lo,hsh,hs,hh]
      intro _ e' he'
      rw [htake] at he'
      rcases List.mem_append.1 he' with he' | he'
      · exact hall e' he'
      · rw [List.mem_singleton] at he'; subst he'; exact hs
    · simp [h5',hIx,ix,opt,get,sp,l1,l4,lo,hsh,hs]
      exact fun _=>hr _ _ (by simp)
  · intro a l g H' ⟨hH,hall⟩ hh hf
    subst hH
    rw [List.take_length] at hall
    simp only [zax,zaE,and_true] at hh
    exact he l g hh hall
theorem zAE (E:List Evt) (hE:E.length≤9223372036854775807) (hbig:∀ e∈E,EvBig e) (ve:GV) (hve:Elems 27 ve (E.map evG)) (H:GH) :
    ∃ b,ecall T zqK [ve] H=some (.bool b,H)∧(b=true→E.length≤60∧∀ e∈E,ziP e.x+e.vt.length≤300):=by
  have le:=hve.len
  have ue:=zah hve
  have oe:=hve.ok
  simp only [List.length_map] at le
  have key:optW (ecall T zqK [ve] H) fun r=>∃ b,r=(.bool b,H)∧(b=true→E.length≤60∧∀ e∈E,ziP e.x+e.vt.length≤300):=by
    rw [zad zCL rfl (by simp [zrd]),zab]
    simp only [zrd,zzD]
    simp [le,ue,oe]
    rw [zat,zal]
    refine zvp E hE hbig ve hve _ _ H _ (by simp [ue]) (by simp) (by simp) (by simp) ?_ ?_
    · intro l g k0 hs
      simp [k0,le,ue,oe]
      rcases Nat.lt_or_ge 50 E.length with h | h
      · exact .inl (by omega)
      · exact .inr ⟨by omega,by omega,hs⟩
    · intro l g k2
      simp [k2]
  obtain ⟨r,h,b,rfl,h2⟩:=key
  exact ⟨b,h,h2⟩
theorem zxD {R:List Evt} (hR:Row R) (vr:GV) (hvr:Elems 27 vr (R.map evG)) (s m:Nat) (l0:List GV) (g0:Nat) (H0:GH) (hS:Sto H0 s m []) (hbo:H0.bo≤H0.objs.length) (K:GExit × St→Prop)
    (h7:zae l0 7=vr) (h8:zae l0 8=.int .i64 R.length) (h9:zae l0 9=.int .i64 0) (h3:zae l0 3=.ptr s 0)
    (he:∀ l g H,Sto H s m (zbD R)→Stepm m H0 H→Fr zre l0 l→K (.exit 0,⟨⟨l,g⟩,H⟩)) :
    optW (erun T2 (.loop zre) ⟨⟨l0,g0⟩,H0⟩) K:=by
  have hle:=hR.le
  refine zaV (T:=T2) (n:=R.length) (A:=Unit) (fun _ _=>[]) (fun i _ _ H'=>Sto H' s m (zbD (R.take i))∧Stepm m H0 H') (c:=10) (b:=0) (I:=9) (N:=8) (d:=16) rfl (by omega) (by decide) ⟨rfl,rfl⟩ (by simp) ?_ ?_ 0 () _ _ H0 (by omega) ⟨hS,.refl _ _⟩ (by simp) (.refl _ _ _) h9 h8
  · intro i a l g H' hi ⟨hA,hSt⟩ hh hf hI
    have k7:=hf.get 7 rfl h7 (by simp [hvr.boxy])
    have k3:=hf.get 3 rfl h3 rfl
    obtain ⟨lt,ix,opt,get,⟨t,sv⟩,wr_,mem⟩:=zc1 (e:=evG) hvr hi (by omega)
    generalize R[i]'hi=e at opt get mem
    have hfe:=hR.fit e mem
    have l1:=zcN hfe.past
    have l4:List.take 27 (evC e)=evC e:=List.take_of_length_le (by rw [l1]; exact Nat.le_refl _)
    have lo:=zgP hfe.past
    have sp:=zhJ hfe.past
    obtain ⟨H1,hd,hA1,hSt1⟩:=hR.step opt hA (hSt.bole hbo)
    rw [sv] at k7
    simp [k7,k3,hI,ix,opt,get,sp,l1,l4,lo,hd]
    exact fun _=>⟨hA1,hSt.trans hSt1⟩
  · intro a l g H' ⟨hA,hSt⟩ hh hf
    rw [List.take_length] at hA
    exact he l g H' hA hSt hf
theorem zr0 {R:List Evt} (h:Row R) {H:GH} {s m:Nat} (hS:Sto H s m (zbD R)):(zeI (zbD R)).map (·.1)=zbT R:=by
  rw [zvz h hS]
  unfold zj0 zbT
  rw [List.map_map]
  have:((fun x:Stp=>x.1) ∘ fun x=>(x,zb1 (zbD R) x))=id:=rfl
  rw [this,List.map_id]
  refine List.filter_congr fun x _=>?_
  unfold zvx zey
  have hp:=zjX h x
  cases hl:zgg R x with
  | nil=>rw [hl] at hp; simp only [List.map_nil] at hp; rw [List.perm_nil.1 hp]; simp
  | cons a l =>
    rw [hl] at hp
    have:zb1 (zbD R) x≠[]:=fun e=>by rw [e] at hp; have:=hp.length_eq; simp at this
    simp [this]
theorem zvq {R:List Evt} (h:Row R):zkX R (zcj (zbD R)):=by
  intro x
  obtain ⟨h1,h2,_⟩:=zwS (zbD R) x
  refine ⟨h1,fun v=>?_⟩
  rw [h2]
  have hp:=(zjX h x).map zex
  rw [List.map_map] at hp
  exact hp.mem_iff
abbrev zhF (R:List Evt):Vw:=zaG (zcj (zbD R)) (zbT R) (zbT R)
def zwW (H:GH) (n:Nat) (R:List Evt):Prop:=VDone H n (zhF R) (zfD R) (fun a=>(zfD R).filter fun x=>decide (x.f=a)) (fun a=>(zfD R).filter fun x=>decide (x.t=a))
theorem zxE {R:List Evt} (h:Row R) {H:GH} {s m:Nat} (hS:Sto H s m (zbD R)):∀ p∈zeI (zbD R),SeeOk (zbD R) p.1:=by
  intro p hp
  have hg:=h.good
  have hp':=(ziX _).mem_iff.1 hp
  have hne:zb1 (zbD R) p.1≠[]:=by rw [znD hS.ap hp']; exact hS.ne_nil p hp'
  obtain ⟨h1,h2⟩:=hg.el p.1 hne
  have hr:=zjw h1
  refine ⟨⟨?_, ?_, ?_, ?_⟩,zfJ h2 hr, ?_,h1⟩
  · have:=h2.a; omega
  · have:=h2.b; omega
  · have:=h2.c; omega
  · have:=h2.d; omega
  · have:=hg.len p.1; have:=h.le; omega
theorem zxF {R:List Evt} (hR:Row R) (vr:GV) (hvr:Elems 27 vr (R.map evG)) (H:GH) (hbo:H.bo≤H.objs.length) (hbt:H.bt≤H.toks.length) :
    ∃ n H',ecall T2 zqL [vr] H=some (.ptr (n+6) 0,H')∧zwW H' n R∧Below H.objs.length H H'∧H.objs.length≤n∧n+7≤H'.objs.length∧H'.bt≤H'.toks.length∧H'.bo=H.bo:=by
  have n1:=zzr H
  have s1:=Sto.new H hbo
  have m1:=zut H
  have hlt:H.objs.length+2≤(zoq H).objs.length:=by simp [zoq]
  have hk1:∀ i,i<H.objs.length→(zoq H).objs[i]?=H.objs[i]?:=fun i hi=>List.getElem?_append_left hi
  have hbt1:(zoq H).bt≤(zoq H).toks.length:=hbt
  have hbo':(zoq H).bo=H.bo:=rfl
  have hbt':(zoq H).bt=H.bt:=rfl
  have e1:=hvr.len
  have e2:=hvr.unb
  have e3:=hvr.ok
  simp only [List.length_map] at e1
  have key:optW (ecall T2 zqL [vr] H) fun r=>∃ n H',r=(.ptr (n+6) 0,H')∧zwW H' n R∧Below H.objs.length H H'∧H.objs.length≤n∧n+7≤H'.objs.length∧H'.bt≤H'.toks.length∧H'.bo=H.bo:=by
    rw [zad (zqB _ _ zCM) rfl (by simp [zrf]),zab]
    simp only [zrf,zzE]
    generalize hHn:zoq H=H1 at n1 s1 m1 hlt hk1 hbt1 hbo' hbt'
    have hbo1:H1.bo≤H1.objs.length:=by rw [m1.bo]; exact Nat.le_trans hbo m1.len
    simp [n1,e1,e2,e3]
    rw [zat,zal]
    refine zxD hR vr hvr (H.objs.length+1) H.objs.length _ _ H1 s1 hbo1 _ (by simp [e2]) (by simp) (by simp) (by simp) ?_
    intro l g H2 hS hSt hf
    have k3:=hf.get 3 rfl (v:=.ptr (H.objs.length+1) 0) (by simp) rfl
    have hsz:=hR.good.size
    have hle:=hR.le
    obtain ⟨H3,c1,c2,c3,c4,c5⟩:=zvm hS (by omega) (zxE hR hS) (hSt.bole hbo1) (by rw [hSt.bt,hSt.toks]; exact hbt1)
    rw [zr0 hR hS,zwO _ (zrS R),(zoV hR _).1] at c2
    simp [k3,c1]
    have hb3:H3.bo=H.bo:=by rw [c3.bo,hSt.bo,hbo']
    refine ⟨H2.objs.length,H3,⟨rfl,rfl⟩,c2,⟨hb3,by rw [c3.bt,hSt.bt,hbt'],fun i hi=>?_⟩, ?_,c5,c4,hb3⟩
    · have hl2:=hSt.len
      rw [c3.keep i (by omega)]
      obtain ⟨o,ho⟩:∃ o,H1.objs[i]?=some o:=⟨_,List.getElem?_eq_getElem (by omega)⟩
      rw [hSt.keep i o (by omega) ho,← hk1 i hi,ho]
    · have hl2:=hSt.len; omega
  obtain ⟨r,hr,n,H',rfl,h⟩:=key
  exact ⟨n,H',hr,h⟩
end Go.Proofs.YtchjbidfmhmmhaaGreatDoor
