/- Own work: the zaG machine and what it shows, part Gx. -/
import Derived.Test.YtchjbidfmhmmhaaGreatDoorGw
import Derived.Test.YtchjbidfmhmmhaaGreatDoorAl
set_option linter.all false
namespace Go.Proofs.YtchjbidfmhmmhaaGreatDoor
open Go.Sh
set_option maxHeartbeats 4000000
set_option maxRecDepth 100000
theorem zdA {a b n:Nat} {sz:Nat} {v:GV} {xs:List GV} (hv:Elems sz v xs) (h:∀ x∈xs,zaI a b n x=some x):∃ v',zaI a b (n+1) v=some v'∧Elems sz v' xs:=by
 cases hv with
 | nil=>exact ⟨.nilsl,rfl,.nil⟩
 | sl _ t =>
  have:=zcW a b n xs h
  exact ⟨_,by show (xs.mapM (zaI a b n)).map _=_; rw [this]; rfl,.sl _ _⟩
theorem zk0 {v:GV} {xs:List GV} (hv:Elems 1 v xs) (hl:xs.length≤10000) (H:GH) (hbt:H.bt≤H.toks.length):∃ v' H',ecall T zqX [v] H=some (v',H')∧Elems 1 v' xs∧TokStep none H H':=by
 cases hv with
 | nil =>
  refine ⟨.nilsl,H, ?_,.nil,.refl _ _⟩
  apply optW.eq
  rw [zad zAm rfl (by simp [zmm]),zab]
  simp [zmm,zxE]
 | sl xs t =>
  obtain ⟨s',H',a1,a2,a3,a4⟩:=zf2 (H:=H) (ty:=9) (sz:=1) (bytes:=16) (s:=.sl 1 [] .exact) (x:=.sl 1 xs t) (.exact []) (ys:=xs) (by simp [zbK]) hbt (by simp [room]; omega) (by simp [maxLen]; omega)
  have e1:=a2.elems.unb
  have e2:=a2.ok
  refine ⟨s',H', ?_,by simpa using a2.elems,a3⟩
  apply optW.eq
  rw [zad zAm rfl (by simp [zmm]),zab]
  simp [zmm,zxE,zaj,a1,e1,e2]
theorem zvq {v:GV} {xs:List GV} (hv:Elems 3 v xs) (hl:xs.length≤10000) (H:GH) (hbt:H.bt≤H.toks.length):∃ v' H',ecall T zuZ [v] H=some (v',H')∧Elems 3 v' xs∧TokStep none H H':=by
 cases hv with
 | nil =>
  refine ⟨.nilsl,H, ?_,.nil,.refl _ _⟩
  apply optW.eq
  rw [zad zAn rfl (by simp [zmn]),zab]
  simp [zmn,zxF]
 | sl xs t =>
  obtain ⟨s',H',a1,a2,a3,a4⟩:=zf2 (H:=H) (ty:=73) (sz:=3) (bytes:=48) (s:=.sl 3 [] .exact) (x:=.sl 3 xs t) (.exact []) (ys:=xs) (by simp [zbK]) hbt (by simp [room]; omega) (by simp [maxLen]; omega)
  have e1:=a2.elems.unb
  have e2:=a2.ok
  refine ⟨s',H', ?_,by simpa using a2.elems,a3⟩
  apply optW.eq
  rw [zad zAn rfl (by simp [zmn]),zab]
  simp [zmn,zxF,zaj,a1,e1,e2]
section
variable {H:GH} {n:Nat} {w:Vw} {links:List Lk} {outs ins:List UInt8→List Lk}
theorem zo0 (hV:VDone H n w links outs ins) (hl:w.nodes.length≤1000):∃ v,ecall T zqS [.ptr (n+6) 0] H=some (v,H)∧Elems 1 v (w.nodes.map za2):=by
 obtain ⟨vn,vl,h6,hn,_⟩:=hV.obj
 obtain ⟨v',H',c1,c2,_⟩:=zk0 hn (by rw [List.length_map]; omega) H.over (Nat.le_refl _)
 obtain ⟨v2,d1,d2⟩:=zdA (a:=H.objs.length) (b:=H.toks.length) (n:=99) c2 (fun x hx=>by obtain ⟨y,_,rfl⟩:=List.mem_map.1 hx; rfl)
 refine ⟨v2, ?_,d2⟩
 apply optW.eq
 rw [zci zCA rfl (by simp [zrp]),zab]
 simp [zrp,zzO,h6,hn.unb,hn.ok,c1,c2.unb,c2.ok,d1]
theorem zmy (hV:VDone H n w links outs ins) (a:List UInt8) (ha:a.length≤1125899906842624) (hl:(w.labels a).length≤1000):∃ v,ecall T zuS [.ptr (n+6) 0,.str (mkB a)] H=some (v,H)∧Elems 1 v ((w.labels a).map za2):=by
 obtain ⟨vn,vl,h6,_,_⟩:=hV.obj
 obtain ⟨es,h0,hM⟩:=hV.labels
 have hk:=zhA a ha
 have hn:=hM.at_ a hk
 generalize hv:(zaX es (za2 a)).getD .nilsl=v0 at hn
 simp only [za2] at hv hk
 obtain ⟨v',H',c1,c2,_⟩:=zk0 hn (by rw [List.length_map]; omega) H.over (Nat.le_refl _)
 obtain ⟨v2,d1,d2⟩:=zdA (a:=H.objs.length) (b:=H.toks.length) (n:=99) c2 (fun x hx=>by obtain ⟨y,_,rfl⟩:=List.mem_map.1 hx; rfl)
 refine ⟨v2, ?_,d2⟩
 apply optW.eq
 rw [zci zCD rfl (by simp [zrs]),zab]
 simp [zrs,zzR,h6,h0,hk,hv,hn.unb,hn.ok,c1,c2.unb,c2.ok,d1]
theorem zja (hV:VDone H n w links outs ins) (hl:links.length≤1000):∃ v,ecall T zoG [.ptr (n+6) 0] H=some (v,H)∧Elems 3 v (links.map lkG):=by
 obtain ⟨vn,vl,h6,_,hn⟩:=hV.obj
 obtain ⟨v',H',c1,c2,_⟩:=zvq hn (by rw [List.length_map]; omega) H.over (Nat.le_refl _)
 obtain ⟨v2,d1,d2⟩:=zdA (a:=H.objs.length) (b:=H.toks.length) (n:=99) c2 (fun x hx=>by obtain ⟨y,_,rfl⟩:=List.mem_map.1 hx; rfl)
 refine ⟨v2, ?_,d2⟩
 apply optW.eq
 rw [zci zCC rfl (by simp [zrr]),zab]
 simp [zrr,zzQ,h6,hn.unb,hn.ok,c1,c2.unb,c2.ok,d1]
theorem znP (hV:VDone H n w links outs ins) (a:List UInt8) (ha:a.length≤1125899906842624):ecall T zoF [.ptr (n+6) 0,.str (mkB a)] H=some (.bool (w.there (zaw a)),H):=by
 obtain ⟨vn,vl,h6,_,_⟩:=hV.obj
 obtain ⟨es,h0,hM⟩:=hV.there
 have hk:=zfB a ha
 have hn:=hM.at_ (zaw a) hk
 have gN:=fun H=>zcX a H
 apply optW.eq
 rw [zci zCB rfl (by simp [zrq]),zab]
 simp [zrq,zzP,h6,h0,hk,hn,gN]
end
theorem zo1 (H:GH):zbw T2 3000 zuQ [] H=some (.bool true,H):=by kernel_rfl
theorem zrZ (H:GH):ecall T2 zuQ [] H=some (.bool true,H):=ecall_iff.2 ⟨3000,zo1 H⟩
theorem zvr (E:List Evt) (hE:E.length≤9223372036854775807) (hbig:∀ e∈E,EvBig e) (ve:GV) (hve:Elems 27 ve (E.map evG)) (l0:List GV) (g0:Nat) (H0:GH) (K:GExit × St→Prop)
 (h5:zag l0 5=ve) (h6:zag l0 6=.int .i64 E.length) (h7:zag l0 7=.int .i64 0) (h0:zag l0 0=ve)
 (he:∀ l g,zag l 0=ve→(∀ e∈E,ziQ e.x+e.vt.length≤300)→K (.exit 0,⟨⟨l,g⟩,H0⟩))
 (hr:∀ l g,zag l 2=.bool false→K (.ret,⟨⟨l,g⟩,H0⟩)) :
 optW (erun T (.loop zw2) ⟨⟨l0,g0⟩,H0⟩) K:=by
 refine za5 (T:=T) (n:=E.length) (A:=Unit) (fun _ _=>[(0,ve)]) (fun i _ _ H'=>H'=H0∧∀ e∈E.take i,ziQ e.x+e.vt.length≤300) (c:=8) (b:=0) (I:=7) (N:=6) (d:=14) rfl (by omega) (by decide) ⟨rfl,rfl⟩ (by simp) ?_ ?_ 0 () _ _ H0 (by omega) ⟨rfl,by simp⟩ (by simp [h0]) (.refl _ _ _) h7 h6
 ·intro i a l g H' hi ⟨hH,hall⟩ hh hf hIx
  subst hH
  have h5':=hf.get 5 rfl h5 (by simp [hve.boxy])
  obtain ⟨lt,ix,opt,get,⟨t,sv⟩,wr_,mem⟩:=zeU (e:=evG) hve hi (by omega)
  generalize E[i]'hi=e at opt get mem
  have hfe:=hbig e mem
  have hsh:=fun H=>zso e hfe H
  have l1:=zfs hfe.past
  have l4:List.take 27 (evC e)=evC e:=List.take_of_length_le (by rw [l1]; exact Nat.le_refl _)
  have lo:=znJ hfe.past
  have sp:=zsp hfe.past
  have htake:E.take (i+1)=E.take i++[e]:=by rw [List.take_add_one,opt]; rfl
  rw [sv] at h5'
  simp only [zaB,zaM,and_true] at hh
  by_cases hs:ziQ e.x+e.vt.length≤300
  ·simp [h5',hIx,ix,opt,get,sp,l1,l4,lo,hsh,hs,hh]
   intro _ e' he'
   rw [htake] at he'
   rcases List.mem_append.1 he' with he' | he'
   ·exact hall e' he'
   ·rw [List.mem_singleton] at he'; subst he'; exact hs
  ·simp [h5',hIx,ix,opt,get,sp,l1,l4,lo,hsh,hs]
   exact fun _=>hr _ _ (by simp)
 ·intro a l g H' ⟨hH,hall⟩ hh hf
  subst hH
  rw [List.take_length] at hall
  simp only [zaB,zaM,and_true] at hh
  exact he l g hh hall
theorem zxO {R:List Evt} (hR:Row R) (vr:GV) (hvr:Elems 27 vr (R.map evG)) (s m:Nat) (l0:List GV) (g0:Nat) (H0:GH) (hS:Sto H0 s m []) (hbo:H0.bo≤H0.objs.length) (K:GExit × St→Prop)
 (h7:zag l0 7=vr) (h8:zag l0 8=.int .i64 R.length) (h9:zag l0 9=.int .i64 0) (h3:zag l0 3=.ptr s 0)
 (he:∀ l g H,Sto H s m (zby R)→Stepm m H0 H→Fr zrh l0 l→K (.exit 0,⟨⟨l,g⟩,H⟩)) :
 optW (erun T2 (.loop zrh) ⟨⟨l0,g0⟩,H0⟩) K:=by
 have hle:=hR.le
 refine za5 (T:=T2) (n:=R.length) (A:=Unit) (fun _ _=>[]) (fun i _ _ H'=>Sto H' s m (zby (R.take i))∧Stepm m H0 H') (c:=10) (b:=0) (I:=9) (N:=8) (d:=16) rfl (by omega) (by decide) ⟨rfl,rfl⟩ (by simp) ?_ ?_ 0 () _ _ H0 (by omega) ⟨hS,.refl _ _⟩ (by simp) (.refl _ _ _) h9 h8
 ·intro i a l g H' hi ⟨hA,hSt⟩ hh hf hI
  have k7:=hf.get 7 rfl h7 (by simp [hvr.boxy])
  have k3:=hf.get 3 rfl h3 rfl
  obtain ⟨lt,ix,opt,get,⟨t,sv⟩,wr_,mem⟩:=zeU (e:=evG) hvr hi (by omega)
  generalize R[i]'hi=e at opt get mem
  have hfe:=hR.fit e mem
  have l1:=zfs hfe.past
  have l4:List.take 27 (evC e)=evC e:=List.take_of_length_le (by rw [l1]; exact Nat.le_refl _)
  have lo:=znJ hfe.past
  have sp:=zsp hfe.past
  obtain ⟨H1,hd,hA1,hSt1⟩:=hR.step opt hA (hSt.bole hbo)
  rw [sv] at k7
  simp [k7,k3,hI,ix,opt,get,sp,l1,l4,lo,hd]
  exact fun _=>⟨hA1,hSt.trans hSt1⟩
 ·intro a l g H' ⟨hA,hSt⟩ hh hf
  rw [List.take_length] at hA
  exact he l g H' hA hSt hf
theorem zr0 {R:List Evt} (h:Row R) {H:GH} {s m:Nat} (hS:Sto H s m (zby R)):(zeJ (zby R)).map (·.1)=zbV R:=by
 rw [zvF h hS]
 unfold zj9 zbV
 rw [List.map_map]
 have:((fun x:Stp=>x.1) ∘ fun x=>(x,zb2 (zby R) x))=id:=rfl
 rw [this,List.map_id]
 refine List.filter_congr fun x _=>?_
 unfold zvD zf8
 have hp:=zj7 h x
 cases hl:zgn R x with
 | nil=>rw [hl] at hp; simp only [List.map_nil] at hp; rw [List.perm_nil.1 hp]; simp
 | cons a l =>
  rw [hl] at hp
  have:zb2 (zby R) x≠[]:=fun e=>by rw [e] at hp; have:=hp.length_eq; simp at this
  simp [this]
theorem znQ {R:List Evt} (h:Row R):zkZ R (zb5 (zby R)):=by
 intro x
 obtain ⟨h1,h2,_⟩:=zw1 (zby R) x
 refine ⟨h1,fun v=>?_⟩
 rw [h2]
 have hp:=(zj7 h x).map zew
 rw [List.map_map] at hp
 exact hp.mem_iff
abbrev zgM (R:List Evt):Vw:=zaD (zb5 (zby R)) (zbV R) (zbV R)
def zw5 (H:GH) (n:Nat) (R:List Evt):Prop:=VDone H n (zgM R) (zbD R) (fun a=>(zbD R).filter fun x=>decide (x.f=a)) (fun a=>(zbD R).filter fun x=>decide (x.t=a))
theorem zxP {R:List Evt} (h:Row R) {H:GH} {s m:Nat} (hS:Sto H s m (zby R)):∀ p∈zeJ (zby R),SeeOk (zby R) p.1:=by
 intro p hp
 have hg:=h.good
 have hp':=(ziY _).mem_iff.1 hp
 have hne:zb2 (zby R) p.1≠[]:=by rw [znF hS.ap hp']; exact hS.ne_nil p hp'
 obtain ⟨h1,h2⟩:=hg.el p.1 hne
 have hr:=zjB h1
 refine ⟨⟨?_, ?_, ?_, ?_⟩,zfE h2 hr, ?_,h1⟩
 ·have:=h2.a; omega
 ·have:=h2.b; omega
 ·have:=h2.c; omega
 ·have:=h2.d; omega
 ·have:=hg.len p.1; have:=h.le; omega
theorem zmz {R:List Evt} (hR:Row R) (vr:GV) (hvr:Elems 27 vr (R.map evG)) (H:GH) (hbo:H.bo≤H.objs.length) (hbt:H.bt≤H.toks.length) :
 ∃ n H',ecall T2 zmc [vr] H=some (.ptr (n+6) 0,H')∧zw5 H' n R∧Below H.objs.length H H'∧H.objs.length≤n∧n+7≤H'.objs.length∧H'.bt≤H'.toks.length∧H'.bo=H.bo:=by
 have n1:=zzz H
 have s1:=Sto.new H hbo
 have m1:=zuy H
 have hlt:H.objs.length+2≤(zox H).objs.length:=by simp [zox]
 have hk1:∀ i,i<H.objs.length→(zox H).objs[i]?=H.objs[i]?:=fun i hi=>List.getElem?_append_left hi
 have hbt1:(zox H).bt≤(zox H).toks.length:=hbt
 have hbo':(zox H).bo=H.bo:=rfl
 have hbt':(zox H).bt=H.bt:=rfl
 have e1:=hvr.len
 have e2:=hvr.unb
 have e3:=hvr.ok
 simp only [List.length_map] at e1
 have key:optW (ecall T2 zmc [vr] H) fun r=>∃ n H',r=(.ptr (n+6) 0,H')∧zw5 H' n R∧Below H.objs.length H H'∧H.objs.length≤n∧n+7≤H'.objs.length∧H'.bt≤H'.toks.length∧H'.bo=H.bo:=by
  rw [zad (zqF _ _ zCx) rfl (by simp [zri]),zab]
  simp only [zri,zzL]
  generalize hHn:zox H=H1 at n1 s1 m1 hlt hk1 hbt1 hbo' hbt'
  have hbo1:H1.bo≤H1.objs.length:=by rw [m1.bo]; exact Nat.le_trans hbo m1.len
  simp [n1,e1,e2,e3]
  rw [zay,zar]
  refine zxO hR vr hvr (H.objs.length+1) H.objs.length _ _ H1 s1 hbo1 _ (by simp [e2]) (by simp) (by simp) (by simp) ?_
  intro l g H2 hS hSt hf
  have k3:=hf.get 3 rfl (v:=.ptr (H.objs.length+1) 0) (by simp) rfl
  have hsz:=hR.good.size
  have hle:=hR.le
  obtain ⟨H3,c1,c2,c3,c4,c5⟩:=zvp hS (by omega) (zxP hR hS) (hSt.bole hbo1) (by rw [hSt.bt,hSt.toks]; exact hbt1)
  rw [zr0 hR hS,zwY _ (zrR R),(zgl hR _).1] at c2
  simp [k3,c1]
  have hb3:H3.bo=H.bo:=by rw [c3.bo,hSt.bo,hbo']
  refine ⟨H2.objs.length,H3,⟨rfl,rfl⟩,c2,⟨hb3,by rw [c3.bt,hSt.bt,hbt'],fun i hi=>?_⟩, ?_,c5,c4,hb3⟩
  ·have hl2:=hSt.len
   rw [c3.keep i (by omega)]
   obtain ⟨o,ho⟩:∃ o,H1.objs[i]?=some o:=⟨_,List.getElem?_eq_getElem (by omega)⟩
   rw [hSt.keep i o (by omega) ho,← hk1 i hi,ho]
  ·have hl2:=hSt.len; omega
 obtain ⟨r,hr,n,H',rfl,h⟩:=key
 exact ⟨n,H',hr,h⟩
end Go.Proofs.YtchjbidfmhmmhaaGreatDoor
