/- Own work: the zaN machine and what it shows, part Gz. -/
import Derived.Test.YtchjbidfmhmmhaaGreatDoorGx
import Derived.Test.YtchjbidfmhmmhaaGreatDoorEl
import Derived.Test.YtchjbidfmhmmhaaGreatDoorRowA
set_option linter.all false
namespace Go.Proofs.YtchjbidfmhmmhaaGreatDoor
open Go.Sh
set_option maxHeartbeats 4000000
set_option maxRecDepth 100000
theorem zr1 (x:Lk) (H:GH):ecall T zuV [.agg (lkC x)] H=some (.agg (elC (zcM x)),H):=by
  apply optW.eq
  rw [zbp zDd rfl (by simp [zrz]),zab]
  simp [zrz,zz7,elC,lkC,zaS,zaf,zkY]
structure RowV (R:List Evt) (vr:GV):Prop where
  row:Row R
  el:Elems 27 vr (R.map evG)
theorem RowV.ok {R:List Evt} {vr:GV} (h:RowV R vr):∀ e∈R,EvOk e:=fun e he=>⟨h.row.fit e he,((zhj rfl h.row.causl).2 e he).1⟩
theorem zjS {R:List Evt} {vr:GV} (h:RowV R vr) (x:El) (H:GH):ecall T zoE [vr,.agg (elC x)] H=some (.bool (zey R x),H):=by
  obtain ⟨v,H',hc,hG⟩:=znP (by have:=h.row.le; omega) h.ok vr h.el x H.over (Nat.le_refl _)
  have e:=hG.app.elems
  have l:=e.len
  simp only [List.length_map] at l
  have hu:=h.el.unb
  have ho:=h.el.ok
  have hlx:(elC x).length=5:=rfl
  have htx:List.take 5 (elC x)=elC x:=rfl
  apply optW.eq
  rw [zbp zDi rfl (by simp [zrF]),zab]
  have hb:decide (0<(zgg R x).length)=zey R x:=by
    unfold zey; cases zgg R x <;> simp
  rw [← hb]
  simp [zrF,zAb,hu,ho,hlx,htx,hc,e.unb,e.ok,l]
theorem zfH {R:List Evt} {vr:GV} (h:RowV R vr) (a:List UInt8) (H:GH):ecall T zmc [vr,.str (mkB a)] H=some (.bool (zg9 R a),H):=by
  have hc:=fun H=>zjS h (zaT a) H
  have hu:=h.el.unb
  have ho:=h.el.ok
  simp only [elC] at hc
  apply optW.eq
  rw [zbp zCS rfl (by simp [zrm]),zab]
  simp at hc
  simp [zrm,zzR,hu,ho,zaS,zaf,hc,zg9]
theorem zgT {R:List Evt} {vr:GV} (h:RowV R vr) (x:Lk) (H:GH):ecall T zqQ [vr,.agg (lkC x)] H=some (.bool (zfC R x),H):=by
  have hc:=fun H=>zjS h (zcM x) H
  have hE:=fun H=>zr1 x H
  have hf:=fun H=>zfH h x.f H
  have ht:=fun H=>zfH h x.t H
  have hu:=h.el.unb
  have ho:=h.el.ok
  simp only [lkC] at hE ⊢
  apply optW.eq
  rw [zbp zCV rfl (by simp [zmh]),zab]
  unfold zfC
  cases h1:zey R (zcM x)
  · rw [h1] at hc
    simp [zmh,zva,hu,ho,hE,hc]
  · rw [h1] at hc
    cases h2:zg9 R x.f
    · rw [h2] at hf
      simp [zmh,zva,hu,ho,hE,hc,hf]
    · rw [h2] at hf
      simp [zmh,zva,hu,ho,hE,hc,hf,ht]
end Go.Proofs.YtchjbidfmhmmhaaGreatDoor
namespace Go.Proofs.YtchjbidfmhmmhaaGreatDoor
open Go.Sh
set_option maxHeartbeats 4000000
set_option maxRecDepth 100000
end Go.Proofs.YtchjbidfmhmmhaaGreatDoor
namespace Go.Proofs.YtchjbidfmhmmhaaGreatDoor
open Go.Sh
set_option maxHeartbeats 4000000
set_option maxRecDepth 100000
theorem znN (R:List Evt) (x:El):decide (x∈zbT R)=zey R x:=by
  rw [Bool.eq_iff_iff,decide_eq_true_eq]; exact zhC
theorem zxG (R:List Evt) (a:List UInt8):(zhF R).there (zaT a)=zg9 R a:=by
  show (decide (zaT a∈zbT R)&&zaH (zbT R) (zaT a))=_
  rw [znN,zgs,zg9,Bool.and_self]
theorem zxH (R:List Evt) (x:Lk):(zhF R).there (zcM x)=zfC R x:=by
  show (decide (zcM x∈zbT R)&&zaH (zbT R) (zcM x))=_
  rw [znN,zgt,zfC]
  cases zey R (zcM x) <;> simp
end Go.Proofs.YtchjbidfmhmmhaaGreatDoor
namespace Go.Proofs.YtchjbidfmhmmhaaGreatDoor
open Go.Sh
set_option maxHeartbeats 4000000
set_option maxRecDepth 100000
theorem zk1 {R:List Evt} {vr:GV} (h:RowV R vr) (e:El) (H:GH):ecall T zqU [vr,.agg (elC e)] H=some (.bool (zeW R e),H):=by
  have hN:=fun H=>zfH h e.a H
  have hL:=fun H=>zgT h (zch e) H
  have hu:=h.el.unb
  have ho:=h.el.ok
  obtain ⟨ek,ea,eb,ec,ed⟩:=e
  simp only [lkC] at hL hN
  apply optW.eq
  rw [zbp zDf rfl (by simp [zkJ]),zab]
  unfold zeW
  by_cases h2:ek=2
  · simp [zkJ,zrC,elC,hu,ho,h2,hN]
  · by_cases h4:ek=4
    · simp [zkJ,zrC,elC,hu,ho,h4,hN]
    · by_cases h5:ek=5
      · simp [zkJ,zrC,elC,hu,ho,h5,hL,zaS,zaf]
      · simp [zkJ,zrC,elC,hu,ho,h2,h4,h5]
theorem zi9 (p:El→Bool) (L:List El) (i:Nat) (x:El) (h:L[i]?=some x):(L.take (i+1)).filter p=(L.take i).filter p++(if p x then [x] else []):=by
  rw [List.take_add_one,h,List.filter_append]
  cases hp:p x <;> simp [hp]
theorem zmB {R:List Evt} {vr:GV} (h:RowV R vr) (key:List UInt8) (X:List El) (hX:X.length≤500) (vx:GV) (hvx:Elems 5 vx (X.map elG)) (l0:List GV) (g0:Nat) (H0:GH) (hbt:H0.bt≤H0.toks.length) (K:GExit × St→Prop)
    (h9:zae l0 9=vx) (h10:zae l0 10=.int .i64 X.length) (h11:zae l0 11=.int .i64 0) (h5:zae l0 5=.nilsl) (h0:zae l0 0=vr) (h1:zae l0 1=.str (mkB key))
    (he:∀ l g H v,zae l 5=v→Grown 1 H0 .nilsl ((X.filter fun e=>decide (e.k=2∧e.a=key)&&(zey R e&&zeW R e)).map fun e=>zbs e.d) H v→Fr zrn l0 l→K (.exit 0,⟨⟨l,g⟩,H⟩)) :
    optW (erun T (.loop zrn) ⟨⟨l0,g0⟩,H0⟩) K:=by
  refine zaV (T:=T) (n:=X.length) (A:=GV) (fun _ s=>[(5,s)]) (fun i s _ H'=>Grown 1 H0 .nilsl (((X.take i).filter fun e=>decide (e.k=2∧e.a=key)&&(zey R e&&zeW R e)).map fun e=>zbs e.d) H' s) (c:=12) (b:=0) (I:=11) (N:=10) (d:=39) rfl (by omega) (by decide) ⟨rfl,rfl⟩ (by simp) ?_ ?_ 0 .nilsl _ _ H0 (by omega) (by simpa using Grown.refl App.nil) (by simp [h5]) (.refl _ _ _) h11 h10
  · intro i s l g H' hi hG hh hf hI
    have k9:=hf.get 9 rfl h9 (by simp [hvx.boxy])
    have k0:=hf.get 0 rfl h0 (by simp [h.el.boxy])
    have k1:=hf.get 1 rfl h1 rfl
    obtain ⟨lt,ix,opt,get,⟨t,sv⟩,wr_,mem⟩:=zc1 (e:=elG) hvx hi (by omega)
    generalize X[i]'hi=e at opt get mem
    have f1:=zi9 (fun e=>decide (e.k=2∧e.a=key)&&(zey R e&&zeW R e)) X i e opt
    have lA:=List.length_filter_le (fun e=>decide (e.k=2∧e.a=key)&&(zey R e&&zeW R e)) (X.take i)
    rw [List.length_take] at lA
    rw [f1]
    generalize (X.take i).filter (fun e=>decide (e.k=2∧e.a=key)&&(zey R e&&zeW R e))=out at hG lA
    have hH:=fun H=>zjS h e H
    have hS:=fun H=>zk1 h e H
    simp only [zax,zaE,and_true] at hh
    rw [sv] at k9
    have vu:=h.el.unb
    have vo:=h.el.ok
    have wok:=hG.ok
    have hu:=zah hG.app.elems
    obtain ⟨ek,ea,eb,ec,ed⟩:=e
    simp only [elC] at hH hS
    by_cases hk:ek=2
    · subst hk
      by_cases ha:ea=key
      · subst ha
        cases hr:zey R ⟨2,ea,eb,ec,ed⟩ with
        | false =>
          rw [hr] at hH
          simp [k9,k0,k1,hI,ix,opt,get,elC,zaf,zaS,vu,vo,hH,hr]
          exact fun _=>by rw [hh]; exact hG
        | true =>
          rw [hr] at hH
          cases hs:zeW R ⟨2,ea,eb,ec,ed⟩ with
          | false =>
            rw [hs] at hS
            simp [k9,k0,k1,hI,ix,opt,get,elC,zaf,zaS,vu,vo,hH,hS,hr,hs]
            exact fun _=>by rw [hh]; exact hG
          | true =>
            rw [hs] at hS
            obtain ⟨w',H2,a1,G1⟩:=zbH (ty:=9) (bytes:=16) (ys:=[zbs ed]) (x:=.sl 1 [zbs ed] .exact) hG.app (by simp [zbG]) (hG.step.btle hbt) (by simp only [List.length_singleton,List.length_map,zdY]; omega) (by simp only [List.length_singleton,List.length_map,maxLen]; omega)
            have wok':=G1.ok
            have G2:=hG.trans G1
            simp only [zbs] at a1
            simp [k9,k0,k1,hI,ix,opt,get,elC,zaf,zaS,vu,vo,hH,hS,hr,hs,hh,wok,wok',hu,zam,a1]
            exact fun _=>by simpa using G2
      · simp [k9,k0,k1,hI,ix,opt,get,elC,zaf,zaS,vu,vo,ha]
        exact fun _=>by rw [hh]; exact hG
    · simp [k9,k0,k1,hI,ix,opt,get,elC,zaf,zaS,vu,vo,hk]
      exact fun _=>by rw [hh]; exact hG
  · intro s l g H' hG hh hf
    simp only [zax,zaE,and_true] at hh
    rw [List.take_length] at hG
    exact he l g H' s hh hG hf
theorem zmC {R:List Evt} {vr:GV} (h:RowV R vr) (key:List UInt8) (H:GH):∃ v,ecall T zqO [vr,.str (mkB key)] H=some (v,H)∧Elems 1 v ((zef R key).map zbs):=by
  have hle:=h.row.le
  obtain ⟨vx,H1,hx,hE,hT⟩:=zk6 (by omega) h.row.fit vr h.el H.over (Nat.le_refl _)
  have l:=hE.len
  simp only [List.length_map] at l
  have hel:=zde R
  have goal:optW (ecall T zqO [vr,.str (mkB key)] H) fun r=>∃ v,r=(v,H)∧Elems 1 v ((zef R key).map zbs):=by
    rw [zbp zCT rfl (by simp [zro]),zab]
    simp only [zro,zzS]
    have vu:=h.el.unb
    have vo:=h.el.ok
    simp [vu,vo,hx,hE.unb,hE.ok,l]
    rw [zat,zal]
    refine zmB h key (zbd R) (by omega) vx hE _ _ H1 (hT.btle (Nat.le_refl _)) _ (by simp [hE.unb]) (by simp) (by simp) (by simp) (by simp [vu]) (by simp) ?_
    intro l4 g4 H4 v k5 hG hf4
    have hE4:=hG.app.elems
    obtain ⟨v2,d1,d2⟩:=zcn (a:=H.objs.length) (b:=H.toks.length) (n:=99) hE4 (fun x hx=>by obtain ⟨y,_,rfl⟩:=List.mem_map.1 hx; rfl)
    simp [k5,hE4.unb,hE4.ok,d1]
    unfold zef
    rw [List.map_map]
    exact d2
  obtain ⟨r,hr,v,rfl,h2⟩:=goal
  exact ⟨v,hr,h2⟩
end Go.Proofs.YtchjbidfmhmmhaaGreatDoor
namespace Go.Proofs.YtchjbidfmhmmhaaGreatDoor
open Go.Sh
set_option maxHeartbeats 4000000
set_option maxRecDepth 100000
abbrev zeX (x:Vl):Vl→Bool:=fun y=>decide (zdZ y x<0)
theorem zxI (x:Evt) (hx:EvFit x) (out:List Vl) (ho:out.length≤1000) (hsm:∀ y∈out,y.t.length≤1048576) (v:GV) (hv:Elems 3 v (out.map vlG)) (g7:Nat) (l0:List GV) (g0:Nat) (H0:GH) (K:GExit × St→Prop)
    (h5:zae l0 5=v) (h7:zae l0 7=.lbox g7 (evC x)) (h8:zae l0 8=.int .i64 0)
    (hk:∀ l g,zae l 8=.int .i64 (ixP (zeX (zcI x)) out)→Fr zi1 l0 l→K (.exit 2,⟨⟨l,g⟩,H0⟩)) :
    optW (erun T (.loop zi1) ⟨⟨l0,g0⟩,H0⟩) K:=by
  refine zcU (l0:=l0) (fun m l g H=>H=H0∧∃ i:Nat,m=out.length - i∧i≤out.length∧zae l 8=.int .i64 i∧∀ k,k<i→∀ y,out[k]?=some y→zeX (zcI x) y=true) ?_ out.length l0 g0 H0 ⟨rfl,0,rfl,Nat.zero_le _,h8,fun k hk=>by omega⟩ (.refl _ _ _)
  intro m l g H ⟨hH,i,hm,hi,q8,lo⟩ hf
  subst hH
  have q5:=hf.get 5 rfl h5 (by simp [hv.boxy])
  have q7:=hf.get 7 rfl h7 rfl
  have hl:=hv.len
  have hu:=zah hv
  have hok:=hv.ok
  have l1:=zcN hx.past
  have vc:=zlW hx.past
  simp only [List.length_map] at hl
  by_cases hlt:i<out.length
  · have hlt':(i:Int)<out.length:=by omega
    obtain ⟨lt,ix,opt,get,⟨t,sl⟩,wr_,mem⟩:=zc1 (e:=vlG) hv hlt (by omega)
    generalize out[i]'hlt=y at opt get mem
    have hle:=fun H=>znx y (zcI x) (hsm y mem) H
    have hw:IntKind.i64.wrap ((i:Int)+1)=(i:Int)+1:=zaq (by omega) (by omega)
    have hlx:(vlC y).length=3:=rfl
    have htx:List.take 3 (vlC y)=vlC y:=rfl
    have hlx':(vlC (zcI x)).length=3:=rfl
    rw [sl] at q5
    by_cases hb:zdZ y (zcI x)<0
    · simp [zi1,q5,q7,q8,hl,hlt',ix,opt,hlx,htx,hlx',l1,vc,hle,hw,hb]
      refine ⟨out.length - (i+1),by omega,i+1,rfl,by omega,by simp,fun k hk z hz=>?_⟩
      rcases Nat.lt_or_ge k i with h | h
      · exact of_decide_eq_true (lo k h z hz)
      · have:k=i:=by omega
        rw [this,opt] at hz
        injection hz with hz
        rw [← hz]; exact hb
    · have hix:=zo6 (p:=zeX (zcI x)) hi lo (fun z hz=>by rw [opt] at hz; injection hz with hz; rw [← hz]; exact decide_eq_false hb)
      simp [zi1,q5,q7,q8,hl,hlt',ix,opt,hlx,htx,hlx',l1,vc,hle,hw,hb]
      exact fun hf'=>hk _ _ (by simp [q8,hix]) hf'
  · have hie:i=out.length:=by omega
    have hix:=zo6 (p:=zeX (zcI x)) hi lo (fun z hz=>by rw [hie] at hz; simp at hz)
    simp [zi1,q5,q7,q8,hl,hu,hok,hlt]
    exact fun hf'=>hk _ _ (by simp [q8,hix]) hf'
theorem znO (out:List Vl) (x:Vl):(zgR out x).length≤out.length+1:=by
  unfold zgR; split
  · omega
  · rw [znQ]; exact Nat.le_refl _
theorem zvr {out:List Vl} {x z:Vl} (h:z∈zgR out x):z=x∨z∈out:=by
  unfold zgR at h; split at h
  · exact .inr h
  · exact insP_mem.1 h
theorem zr2 (F:List Evt) (hF:F.length≤500) (hfit:∀ e∈F,EvFit e) (vx:GV) (hvx:Elems 27 vx (F.map evG)) (l0:List GV) (g0:Nat) (H0:GH) (hbt:H0.bt≤H0.toks.length) (K:GExit × St→Prop)
    (h20:zae l0 20=vx) (h21:zae l0 21=.int .i64 F.length) (h22:zae l0 22=.int .i64 0) (h5:zae l0 5=.nilsl)
    (he:∀ l g H v,zae l 5=v→Elems 3 v (((F.map zcI).foldl zgR []).map vlG)→TokStep none H0 H→Fr zrk l0 l→K (.exit 0,⟨⟨l,g⟩,H⟩)) :
    optW (erun T (.loop zrk) ⟨⟨l0,g0⟩,H0⟩) K:=by
  refine zaV (T:=T) (n:=F.length) (A:=GV) (fun _ s=>[(5,s)]) (fun i s _ H'=>Elems 3 s ((((F.take i).map zcI).foldl zgR []).map vlG)∧TokStep none H0 H'∧(((F.take i).map zcI).foldl zgR []).length≤i∧∀ y∈((F.take i).map zcI).foldl zgR [],y.t.length≤1048576) (c:=23) (b:=0) (I:=22) (N:=21) (d:=68) rfl (by omega) (by decide) ⟨rfl,rfl⟩ (by simp) ?_ ?_ 0 .nilsl _ _ H0 (by omega) ⟨by rw [List.take_zero]; exact .nil,.refl _ _,by simp,by simp⟩ (by simp [h5]) (.refl _ _ _) h22 h21
  · intro i s l g H' hi ⟨hE,hT,hol,hsm⟩ hh hf hI
    have k20:=hf.get 20 rfl h20 (by simp [hvx.boxy])
    obtain ⟨lt,ix,opt,get,⟨t,sv⟩,wr_,mem⟩:=zc1 (e:=evG) hvx hi (by omega)
    generalize F[i]'hi=e at opt get mem
    have hfe:=hfit e mem
    have l1:=zcN hfe.past
    have l4:List.take 27 (evC e)=evC e:=List.take_of_length_le (by rw [l1]; exact Nat.le_refl _)
    have lo:=zgP hfe.past
    have sp:=zhJ hfe.past
    have vc:=zlW hfe.past
    have hst:((F.take (i+1)).map zcI).foldl zgR []=zgR (((F.take i).map zcI).foldl zgR []) (zcI e):=by
      rw [List.take_add_one,opt,List.map_append,List.foldl_append]; rfl
    have hol':=znO (((F.take i).map zcI).foldl zgR []) (zcI e)
    have hsm':∀ y∈zgR (((F.take i).map zcI).foldl zgR []) (zcI e),y.t.length≤1048576:=fun y hy=>by
      rcases zvr hy with rfl | hy
      · exact hfe.t
      · exact hsm y hy
    rw [hst]
    generalize ((F.take i).map zcI).foldl zgR []=out at hE hol hol' hsm hsm'
    simp only [zax,zaE,and_true] at hh
    rw [sv] at k20
    have hu:=zah hE
    have hl:=hE.len
    have hk:=hE.ok
    simp only [List.length_map] at hl
    simp [k20,hI,ix,opt,get,sp,l1,l4,lo]
    rw [zal,zat,zal]
    refine zxI e hfe out (by omega) hsm s hE g _ _ H' _ (by simp [hh]) (by simp) (by simp) ?_
    intro l2 g2 k8 hf2
    have k5:=hf2.get 5 rfl (v:=s) (by simp [hh]) (by simp [hE.boxy])
    have k7:=hf2.get 7 rfl (v:=.lbox g (evC e)) (by simp) rfl
    have hix:=zxL (zeX (zcI e)) out
    have hb:=hT.btle hbt
    have hlx:(vlC (zcI e)).length=3:=rfl
    have htx:List.take 3 (vlC (zcI e))=vlC (zcI e):=rfl
    have hvo:(vlC (zcI e)).all GV.one=true:=rfl
    unfold zgR at hol' hsm' ⊢
    by_cases heq:out[ixP (zeX (zcI e)) out]?=some (zcI e)
    · rw [if_pos heq] at hol' hsm' ⊢
      have hlt:ixP (zeX (zcI e)) out<out.length:=(List.getElem?_eq_some_iff.1 heq).1
      obtain ⟨lt2,ix2,opt2,get2,⟨t2,sv2⟩,_,_⟩:=zc1 (e:=vlG) hE hlt (by omega)
      rw [heq] at opt2
      have hg:∀ h,out[ixP (zeX (zcI e)) out]'h=zcI e:=fun _=>(List.getElem?_eq_some_iff.1 heq).2
      have lv:=zix (zcI e) (zcI e)
      have hne:¬ ((ixP (zeX (zcI e)) out:Int)=out.length):=by omega
      rw [sv2] at k5
      generalize ixP (zeX (zcI e)) out=k at *
      simp [k5,k7,k8,hl,hne,ix2,hg,heq,l1,vc,hlx,htx,lv]
      exact fun _=>⟨by rw [← sv2]; exact hE,hT,by omega,hsm'⟩
    · rw [if_neg heq] at hol' hsm' ⊢
      unfold zjY at hol' hsm' ⊢
      have c54:(ixP (zeX (zcI e)) out=out.length)∨(∃ y,ixP (zeX (zcI e)) out<out.length∧out[ixP (zeX (zcI e)) out]?=some y∧y≠zcI e):=by
        by_cases h:ixP (zeX (zcI e)) out=out.length
        · exact .inl h
        · have hlt:ixP (zeX (zcI e)) out<out.length:=by omega
          refine .inr ⟨_,hlt,List.getElem?_eq_getElem hlt,fun h=>heq ?_⟩
          rw [List.getElem?_eq_getElem hlt,h]
      generalize ixP (zeX (zcI e)) out=k at *
      have g1:zaA (out.map vlG).length false true false [.int .i64 (k:Int)]=some (0,k,none):=by
        simp only [zaA,List.length_map,zdw hix,Option.map_some]
      have g2':zaA (out.map vlG).length true false false [.int .i64 (k:Int)]=some (k,out.length,none):=by
        simp only [zaA,List.length_map,zdw hix,Option.map_some]
      obtain ⟨c1,d1,e1⟩:=hE.cut g1
      obtain ⟨c2,d2,e2⟩:=hE.cut g2'
      have o1:=e1.ok
      have o2:=e2.ok
      obtain ⟨m,H1,n,H2,r,H3,b1,b2,b3,b4,b5,b6,b7,b8⟩:=zgV (H:=H') (ty:=34) (bytes:=32) (z:=vlG (zcI e)) e1 e2 (by simp [zbG]) hb (by simp; omega) (by omega)
      have hx:((out.map vlG).drop 0).take (k - 0)++vlG (zcI e)::((out.map vlG).drop k).take (out.length - k)=(out.take k++(zcI e)::out.drop k).map vlG:=by
        rw [List.drop_zero,Nat.sub_zero,List.map_append,List.map_cons,List.map_take,List.map_drop,List.take_of_length_le (l:=(out.map vlG).drop k) (by simp)]
      rw [hx] at b7
      simp only [vlG] at b3
      rcases c54 with hke | ⟨y,hlt,hy,hne⟩
      · subst hke
        simp [-zep,k5,k7,k8,hl,hu,hk,d1,d2,o1,o2,zam,zaS,b1,b2,b3,b4,b5,b6,l1,vc,hlx,htx,hvo]
        exact fun _=>⟨by simpa using b7,hT.trans b8,by have h9:=hol'; simp at h9 ⊢; omega,by simpa using hsm'⟩
      · obtain ⟨lt2,ix2,opt2,get2,⟨t2,sv2⟩,_,_⟩:=zc1 (e:=vlG) hE hlt (by omega)
        have lv:=zix y (zcI e)
        have hke':¬ ((k:Int)=out.length):=by omega
        have hly:(vlC y).length=3:=rfl
        have hty:List.take 3 (vlC y)=vlC y:=rfl
        rw [sv2] at k5 d1 d2
        simp [-zep,k5,k7,k8,hl,hu,hk,hke',ix2,hy,hly,hty,lv,hne,d1,d2,o1,o2,zam,zaS,b1,b2,b3,b4,b5,b6,l1,vc,hlx,htx,hvo]
        exact fun _=>⟨by simpa using b7,hT.trans b8,by have h9:=hol'; simp at h9 ⊢; omega,by simpa using hsm'⟩
  · intro s l g H' ⟨hE,hT,_⟩ hh hf
    simp only [zax,zaE,and_true] at hh
    rw [List.take_length] at hE
    exact he l g H' s hh hE hT hf
theorem zhG {R:List Evt} {vr:GV} (h:RowV R vr) (e:El) (H:GH):∃ v,ecall T zoz [vr,.agg (elC e)] H=some (v,H)∧Elems 3 v ((zbE R e).map vlG):=by
  have hle:=h.row.le
  obtain ⟨vx,H1,hx,hG⟩:=znP (by omega) h.ok vr h.el e H.over (Nat.le_refl _)
  have hE:=hG.app.elems
  have l:=hE.len
  simp only [List.length_map] at l
  have hS:=fun H=>zk1 h e H
  have hlx:(elC e).length=5:=rfl
  have htx:List.take 5 (elC e)=elC e:=rfl
  have hx0:∀ h,(elC e)[0]'h=.int .i64 e.k:=fun _=>rfl
  have hlv:(zgg R e).length≤500:=Nat.le_trans (List.length_filter_le _ _) (by omega)
  have goal:optW (ecall T zoz [vr,.agg (elC e)] H) fun r=>∃ v,r=(v,H)∧Elems 3 v ((zbE R e).map vlG):=by
    rw [zbp zCR rfl (by simp [zrl]),zab]
    simp only [zrl,zzQ]
    have vu:=h.el.unb
    have vo:=h.el.ok
    unfold zbE
    by_cases hk:e.k<4
    · simp [vu,vo,hlx,htx,hx0,hk]
      exact .nil
    · cases hs:zeW R e with
      | false =>
        rw [hs] at hS
        simp [vu,vo,hlx,htx,hx0,hk,hS]
        exact .nil
      | true =>
        rw [hs] at hS
        simp [vu,vo,hlx,htx,hx0,hk,hS,hx,hE.unb,hE.ok,l]
        rw [zat,zal]
        refine zr2 (zgg R e) hlv (fun y hy=>h.row.fit y (List.mem_filter.1 hy).1) vx hE _ _ H1 (hG.step.btle (Nat.le_refl _)) _ (by simp [hE.unb]) (by simp) (by simp) (by simp) ?_
        intro l4 g4 H4 v k5 hE4 hT4 hf4
        obtain ⟨v2,d1,d2⟩:=zcn (a:=H.objs.length) (b:=H.toks.length) (n:=99) hE4 (fun x hx=>by obtain ⟨y,_,rfl⟩:=List.mem_map.1 hx; rfl)
        simp [k5,hE4.unb,hE4.ok,d1]
        simpa using d2
  obtain ⟨r,hr,v,rfl,h2⟩:=goal
  exact ⟨v,hr,h2⟩
end Go.Proofs.YtchjbidfmhmmhaaGreatDoor
namespace Go.Proofs.YtchjbidfmhmmhaaGreatDoor
open Go.Sh
set_option maxHeartbeats 4000000
set_option maxRecDepth 100000
abbrev zmD (R:List Evt) (o:El):El→Bool:=fun e=>ofR o&&(zhB o e&&decide (0<(zbE R e).length))
theorem zo1 {R:List Evt} {vr:GV} (h:RowV R vr) (o:El) (g3:Nat) (X:List El) (hX:X.length≤500) (vx:GV) (hvx:Elems 5 vx (X.map elG)) (l0:List GV) (g0:Nat) (H0:GH) (hbt:H0.bt≤H0.toks.length) (K:GExit × St→Prop)
    (h10:zae l0 10=vx) (h11:zae l0 11=.int .i64 X.length) (h12:zae l0 12=.int .i64 0) (h5:zae l0 5=.nilsl) (h0:zae l0 0=vr) (h3:zae l0 3=.lbox g3 (elC o))
    (he:∀ l g H v,zae l 5=v→Grown 1 H0 .nilsl ((X.filter (zmD R o)).map fun e=>zbs e.d) H v→Fr zrr l0 l→K (.exit 0,⟨⟨l,g⟩,H⟩)) :
    optW (erun T (.loop zrr) ⟨⟨l0,g0⟩,H0⟩) K:=by
  refine zaV (T:=T) (n:=X.length) (A:=GV) (fun _ s=>[(3,.lbox g3 (elC o)),(5,s)]) (fun i s _ H'=>Grown 1 H0 .nilsl (((X.take i).filter (zmD R o)).map fun e=>zbs e.d) H' s) (c:=13) (b:=0) (I:=12) (N:=11) (d:=103) rfl (by omega) (by decide) ⟨rfl,rfl⟩ (by simp) ?_ ?_ 0 .nilsl _ _ H0 (by omega) (by simpa using Grown.refl App.nil) (by simp [h3,h5]) (.refl _ _ _) h12 h11
  · intro i s l g H' hi hG hh hf hI
    have k10:=hf.get 10 rfl h10 (by simp [hvx.boxy])
    have k0:=hf.get 0 rfl h0 (by simp [h.el.boxy])
    obtain ⟨lt,ix,opt,get,⟨t,sv⟩,wr_,mem⟩:=zc1 (e:=elG) hvx hi (by omega)
    generalize X[i]'hi=e at opt get mem
    have f1:=zi9 (zmD R o) X i e opt
    have lA:=List.length_filter_le (zmD R o) (X.take i)
    rw [List.length_take] at lA
    rw [f1]
    generalize (X.take i).filter (zmD R o)=out at hG lA
    obtain ⟨v,hv,hvE⟩:=zhG h e H'
    have hvu:=zah hvE
    have hvo:=hvE.ok
    have hvl:=hvE.len
    simp only [List.length_map] at hvl
    simp only [zax,zaE,and_true] at hh
    obtain ⟨k3,hh⟩:=hh
    rw [sv] at k10
    have vu:=h.el.unb
    have vo:=h.el.ok
    have wok:=hG.ok
    have hu:=zah hG.app.elems
    have hlx:(elC e).length=5:=rfl
    have htx:List.take 5 (elC e)=elC e:=rfl
    have hone:(elC e).all GV.one=true:=rfl
    have hsp:zaf [GV.int .i64 0,.str ⟨#[]⟩,.str ⟨#[]⟩,.str ⟨#[]⟩,.str ⟨#[]⟩] 0 (elC e)=some (elC e):=rfl
    have x0:∀ h,(elC e)[0]'h=.int .i64 e.k:=fun _=>rfl
    have x1:∀ h,(elC e)[1]'h=.str (mkB e.a):=fun _=>rfl
    have x2:∀ h,(elC e)[2]'h=.str (mkB e.b):=fun _=>rfl
    have x3:∀ h,(elC e)[3]'h=.str (mkB e.c):=fun _=>rfl
    have x4:∀ h,(elC e)[4]'h=.str (mkB e.d):=fun _=>rfl
    have o0:∀ h,(elC o)[0]'h=.int .i64 o.k:=fun _=>rfl
    have o1:∀ h,(elC o)[1]'h=.str (mkB o.a):=fun _=>rfl
    have o2:∀ h,(elC o)[2]'h=.str (mkB o.b):=fun _=>rfl
    have o3:∀ h,(elC o)[3]'h=.str (mkB o.c):=fun _=>rfl
    have o4:∀ h,(elC o)[4]'h=.str (mkB o.d):=fun _=>rfl
    have hlo:(elC o).length=5:=rfl
    obtain ⟨w',H2,a1,G1⟩:=zbH (ty:=9) (bytes:=16) (ys:=[zbs e.d]) (x:=.sl 1 [zbs e.d] .exact) hG.app (by simp [zbG]) (hG.step.btle hbt) (by simp only [List.length_singleton,List.length_map,zdY]; omega) (by simp only [List.length_singleton,List.length_map,maxLen]; omega)
    have wok':=G1.ok
    have G2:=hG.trans G1
    simp only [zbs] at a1
    generalize hQ:zmD R o e=qq
    simp only [zmD] at hQ
    by_cases q1:o.k=1
    · by_cases qd:o.d=[]
      · by_cases qb:o.b=[]
        · by_cases qc:o.c=[]
          · by_cases p1:e.k=4
            · by_cases p2:e.a=o.a
              · skip
                have hO:(ofR o&&zhB o e)=true:=by simp [ofR,zhB,q1,qd,qb,qc,p1,p2]
                simp only [Bool.and_eq_true] at hO
                rw [hO.1,hO.2,Bool.true_and,Bool.true_and] at hQ
                cases qq with
                | false =>
                  have hz':(zbE R e).length=0:=by have:=of_decide_eq_false hQ; omega
                  simp [k10,k3,k0,hI,ix,opt,get,hsp,hlx,htx,hone,vu,vo,x0,x1,x2,x3,x4,o0,o1,o2,o3,o4,hlo,q1,qd,qb,qc,p1,p2,hv,hvu,hvo,hvl,hz']
                  exact fun _=>by rw [hh]; exact hG
                | true =>
                  have hz':0<(zbE R e).length:=of_decide_eq_true hQ
                  simp [k10,k3,k0,hI,ix,opt,get,hsp,hlx,htx,hone,vu,vo,x0,x1,x2,x3,x4,o0,o1,o2,o3,o4,hlo,q1,qd,qb,qc,p1,p2,hv,hvu,hvo,hvl,hz',hh,wok,wok',hu,zam,a1]
                  exact fun _=>by simpa using G2
              · skip
                obtain rfl:qq=false:=by rw [← hQ]; simp [ofR,zhB,q1,qd,qb,qc,p1,p2]
                simp [k10,k3,k0,hI,ix,opt,get,hsp,hlx,htx,hone,vu,vo,x0,x1,x2,x3,x4,o0,o1,o2,o3,o4,hlo,q1,qd,qb,qc,p1,p2]
                exact fun _=>by rw [hh]; exact hG
            · skip
              obtain rfl:qq=false:=by rw [← hQ]; simp [ofR,zhB,q1,qd,qb,qc,p1]
              simp [k10,k3,k0,hI,ix,opt,get,hsp,hlx,htx,hone,vu,vo,x0,x1,x2,x3,x4,o0,o1,o2,o3,o4,hlo,q1,qd,qb,qc,p1]
              exact fun _=>by rw [hh]; exact hG
          · skip
            obtain rfl:qq=false:=by rw [← hQ]; simp [ofR,zhB,q1,qd,qb,qc]
            simp [k10,k3,k0,hI,ix,opt,get,hsp,hlx,htx,hone,vu,vo,x0,x1,x2,x3,x4,o0,o1,o2,o3,o4,hlo,q1,qd,qb,qc]
            exact fun _=>by rw [hh]; exact hG
        · skip
          obtain rfl:qq=false:=by rw [← hQ]; simp [ofR,zhB,q1,qd,qb]
          simp [k10,k3,k0,hI,ix,opt,get,hsp,hlx,htx,hone,vu,vo,x0,x1,x2,x3,x4,o0,o1,o2,o3,o4,hlo,q1,qd,qb]
          exact fun _=>by rw [hh]; exact hG
      · skip
        obtain rfl:qq=false:=by rw [← hQ]; simp [ofR,zhB,q1,qd]
        simp [k10,k3,k0,hI,ix,opt,get,hsp,hlx,htx,hone,vu,vo,x0,x1,x2,x3,x4,o0,o1,o2,o3,o4,hlo,q1,qd]
        exact fun _=>by rw [hh]; exact hG
    · by_cases q3:o.k=3
      · by_cases qd:o.d=[]
        · by_cases p1:e.k=5
          · by_cases p2:e.a=o.a
            · by_cases p3:e.b=o.b
              · by_cases p4:e.c=o.c
                · skip
                  have hO:(ofR o&&zhB o e)=true:=by simp [ofR,zhB,q3,qd,p1,p2,p3,p4]
                  simp only [Bool.and_eq_true] at hO
                  rw [hO.1,hO.2,Bool.true_and,Bool.true_and] at hQ
                  cases qq with
                  | false =>
                    have hz':(zbE R e).length=0:=by have:=of_decide_eq_false hQ; omega
                    simp [k10,k3,k0,hI,ix,opt,get,hsp,hlx,htx,hone,vu,vo,x0,x1,x2,x3,x4,o0,o1,o2,o3,o4,hlo,q3,qd,p1,p2,p3,p4,hv,hvu,hvo,hvl,hz']
                    exact fun _=>by rw [hh]; exact hG
                  | true =>
                    have hz':0<(zbE R e).length:=of_decide_eq_true hQ
                    simp [k10,k3,k0,hI,ix,opt,get,hsp,hlx,htx,hone,vu,vo,x0,x1,x2,x3,x4,o0,o1,o2,o3,o4,hlo,q3,qd,p1,p2,p3,p4,hv,hvu,hvo,hvl,hz',hh,wok,wok',hu,zam,a1]
                    exact fun _=>by simpa using G2
                · skip
                  obtain rfl:qq=false:=by rw [← hQ]; simp [ofR,zhB,q3,qd,p1,p2,p3,p4]
                  simp [k10,k3,k0,hI,ix,opt,get,hsp,hlx,htx,hone,vu,vo,x0,x1,x2,x3,x4,o0,o1,o2,o3,o4,hlo,q3,qd,p1,p2,p3,p4]
                  exact fun _=>by rw [hh]; exact hG
              · skip
                obtain rfl:qq=false:=by rw [← hQ]; simp [ofR,zhB,q3,qd,p1,p2,p3]
                simp [k10,k3,k0,hI,ix,opt,get,hsp,hlx,htx,hone,vu,vo,x0,x1,x2,x3,x4,o0,o1,o2,o3,o4,hlo,q3,qd,p1,p2,p3]
                exact fun _=>by rw [hh]; exact hG
            · skip
              obtain rfl:qq=false:=by rw [← hQ]; simp [ofR,zhB,q3,qd,p1,p2]
              simp [k10,k3,k0,hI,ix,opt,get,hsp,hlx,htx,hone,vu,vo,x0,x1,x2,x3,x4,o0,o1,o2,o3,o4,hlo,q3,qd,p1,p2]
              exact fun _=>by rw [hh]; exact hG
          · skip
            obtain rfl:qq=false:=by rw [← hQ]; simp [ofR,zhB,q3,qd,p1]
            simp [k10,k3,k0,hI,ix,opt,get,hsp,hlx,htx,hone,vu,vo,x0,x1,x2,x3,x4,o0,o1,o2,o3,o4,hlo,q3,qd,p1]
            exact fun _=>by rw [hh]; exact hG
        · skip
          obtain rfl:qq=false:=by rw [← hQ]; simp [ofR,zhB,q3,qd]
          simp [k10,k3,k0,hI,ix,opt,get,hsp,hlx,htx,hone,vu,vo,x0,x1,x2,x3,x4,o0,o1,o2,o3,o4,hlo,q3,qd]
          exact fun _=>by rw [hh]; exact hG
      · skip
        obtain rfl:qq=false:=by rw [← hQ]; simp [ofR,zhB,q1,q3]
        simp [k10,k3,k0,hI,ix,opt,get,hsp,hlx,htx,hone,vu,vo,x0,x1,x2,x3,x4,o0,o1,o2,o3,o4,hlo,q1,q3]
        exact fun _=>by rw [hh]; exact hG
  · intro s l g H' hG hh hf
    simp only [zax,zaE,and_true] at hh
    rw [List.take_length] at hG
    exact he l g H' s hh.2 hG hf
theorem zo2 {R:List Evt} {vr:GV} (h:RowV R vr) (o:El) (H:GH):∃ v,ecall T zqR [vr,.agg (elC o)] H=some (v,H)∧Elems 1 v ((zgS R o).map zbs):=by
  have hle:=h.row.le
  obtain ⟨vx,H1,hx,hE,hT⟩:=zk6 (by omega) h.row.fit vr h.el H.over (Nat.le_refl _)
  have l:=hE.len
  simp only [List.length_map] at l
  have hel:=zde R
  have hlo:(elC o).length=5:=rfl
  have hto:List.take 5 (elC o)=elC o:=rfl
  have goal:optW (ecall T zqR [vr,.agg (elC o)] H) fun r=>∃ v,r=(v,H)∧Elems 1 v ((zgS R o).map zbs):=by
    rw [zbp zCX rfl (by simp [zrs]),zab]
    simp only [zrs,zzV]
    have vu:=h.el.unb
    have vo:=h.el.ok
    simp [vu,vo,hx,hE.unb,hE.ok,l,hlo,hto]
    rw [zat,zal]
    refine zo1 h o 0 (zbd R) (by omega) vx hE _ _ H1 (hT.btle (Nat.le_refl _)) _ (by simp [hE.unb]) (by simp) (by simp) (by simp) (by simp [vu]) (by simp) ?_
    intro l4 g4 H4 v k5 hG hf4
    have hE4:=hG.app.elems
    obtain ⟨v2,d1,d2⟩:=zcn (a:=H.objs.length) (b:=H.toks.length) (n:=99) hE4 (fun x hx=>by obtain ⟨y,_,rfl⟩:=List.mem_map.1 hx; rfl)
    simp [k5,hE4.unb,hE4.ok,d1]
    unfold zgS
    rw [List.map_map]
    exact d2
  obtain ⟨r,hr,v,rfl,h2⟩:=goal
  exact ⟨v,hr,h2⟩
end Go.Proofs.YtchjbidfmhmmhaaGreatDoor
namespace Go.Proofs.YtchjbidfmhmmhaaGreatDoor
open Go.Sh
set_option maxHeartbeats 4000000
set_option maxRecDepth 100000
theorem zr3 (L:List (List UInt8)) (hL:L.length≤100000) (va vb:GV) (hva:Elems 1 va (L.map zbs)) (hvb:Elems 1 vb (L.map zbs)) (l0:List GV) (g0:Nat) (H0:GH) (K:GExit × St→Prop)
    (h0:zae l0 0=va) (h1:zae l0 1=vb) (h12:zae l0 12=.int .i64 L.length) (h13:zae l0 13=.int .i64 0)
    (he:∀ l g,K (.exit 0,⟨⟨l,g⟩,H0⟩)) :
    optW (erun T (.loop zwV) ⟨⟨l0,g0⟩,H0⟩) K:=by
  refine zaV (T:=T) (n:=L.length) (A:=Unit) (fun i _=>[]) (fun i _ _ H'=>H'=H0) (c:=14) (b:=0) (I:=13) (N:=12) (d:=25) rfl (by omega) (by decide) ⟨rfl,rfl⟩ (by simp) ?_ ?_ 0 () _ _ H0 (by omega) rfl (by simp) (.refl _ _ _) h13 h12
  · intro i u l g H' hi hH hh hf hI
    subst hH
    have k0:=hf.get 0 rfl h0 (by simp [hva.boxy])
    have k1:=hf.get 1 rfl h1 (by simp [hvb.boxy])
    obtain ⟨lt,ix,opt,get,⟨t,sv⟩,_,_⟩:=zc1 (e:=zbs) hva hi (by omega)
    obtain ⟨_,_,_,_,⟨t2,sv2⟩,_,_⟩:=zc1 (e:=zbs) hvb hi (by omega)
    generalize L[i]'hi=e at opt get
    rw [sv] at k0
    rw [sv2] at k1
    have hc0:(zbs e).cells=[.str (mkB e)]:=rfl
    simp [k0,k1,hI,ix,opt,get,hc0]
  · intro u l g H' hH hh hf
    subst hH
    exact he l g
theorem zr4 (L:List (List UInt8)) (hL:L.length≤100000) (va vb:GV) (hva:Elems 1 va (L.map zbs)) (hvb:Elems 1 vb (L.map zbs)) (H:GH):ecall T zqM [va,vb] H=some (.bool true,H):=by
  have a1:=hva.len
  have a2:=zah hva
  have a3:=hva.ok
  have b1:=hvb.len
  have b2:=zah hvb
  have b3:=hvb.ok
  simp only [List.length_map] at a1 b1
  apply optW.eq
  rw [zbp zCN rfl (by simp [zrg]),zab]
  simp only [zrg,zzF]
  simp [a1,a2,a3,b1,b2,b3]
  rw [zat,zal]
  refine zr3 L hL va vb hva hvb _ _ _ _ (by simp [a2]) (by simp [b2]) (by simp) (by simp) ?_
  intro l g
  simp
theorem zr5 (L:List Vl) (hL:L.length≤100000) (va vb:GV) (hva:Elems 3 va (L.map vlG)) (hvb:Elems 3 vb (L.map vlG)) (s6 s7:GV) (l0:List GV) (g0:Nat) (H0:GH) (K:GExit × St→Prop)
    (h12:zae l0 12=va) (h13:zae l0 13=vb) (h56:zae l0 56=.int .i64 L.length) (h57:zae l0 57=.int .i64 0)
    (he:∀ l g,Fr zq2 l0 l→K (.exit 0,⟨⟨l,g⟩,H0⟩)) :
    optW (erun T2 (.loop zq2) ⟨⟨l0,g0⟩,H0⟩) K:=by
  refine zaV (T:=T2) (n:=L.length) (A:=Unit) (fun i _=>[]) (fun i _ _ H'=>H'=H0) (c:=58) (b:=0) (I:=57) (N:=56) (d:=69) rfl (by omega) (by decide) ⟨rfl,rfl⟩ (by simp) ?_ ?_ 0 () _ _ H0 (by omega) rfl (by simp) (.refl _ _ _) h57 h56
  · intro i u l g H' hi hH hh hf hI
    subst hH
    have k12:=hf.get 12 rfl h12 (by simp [hva.boxy])
    have k13:=hf.get 13 rfl h13 (by simp [hvb.boxy])
    obtain ⟨lt,ix,opt,get,⟨t,sv⟩,_,_⟩:=zc1 (e:=vlG) hva hi (by omega)
    obtain ⟨_,_,_,_,⟨t2,sv2⟩,_,_⟩:=zc1 (e:=vlG) hvb hi (by omega)
    generalize L[i]'hi=e at opt get
    have le:=zix e e
    simp only [decide_true] at le
    have hlx:(vlC e).length=3:=rfl
    have htx:List.take 3 (vlC e)=vlC e:=rfl
    rw [sv] at k12
    rw [sv2] at k13
    simp [k12,k13,hI,ix,opt,get,le,hlx,htx]
  · intro u l g H' hH hh hf
    subst hH
    exact he l g hf
theorem zk2:∀ (l out:List Vl),(l.foldl zgR out).length≤out.length+l.length
  | [],out=>by simp
  | x::l,out=>by
    rw [List.foldl_cons,List.length_cons]
    have h1:=zk2 l (zgR out x)
    have h2:=znO out x
    omega
theorem zo3 {R:List Evt} (h:Row R) (e:El):(zbE R e).length≤60:=by
  unfold zbE
  split
  · simp
  · have h1:=zk2 ((zgg R e).map zcI) []
    have h2:(zgg R e).length≤R.length:=List.length_filter_le _ _
    have h3:=h.le
    simp only [List.length_map,List.length_nil] at h1
    omega
theorem zo4 {R:List Evt} (h:Row R) (key:List UInt8):(zef R key).length≤60:=by
  unfold zef
  rw [List.length_map]
  have h2:=List.length_filter_le (fun e:El=>decide (e.k=2∧e.a=key)&&(zey R e&&zeW R e)) (zbd R)
  have h3:=zde R
  have h4:=h.le
  omega
theorem zr6 {R:List Evt} (h:Row R) (o:El):(zgS R o).length≤60:=by
  unfold zgS
  rw [List.length_map]
  have h2:=List.length_filter_le (fun e:El=>ofR o&&(zhB o e&&decide (0<(zbE R e).length))) (zbd R)
  have h3:=zde R
  have h4:=h.le
  omega
theorem zk3 (E:List Evt) (hE:E.length≤9223372036854775807) (hin:∀ e∈E,EvIn e) (ve:GV) (hve:Elems 27 ve (E.map evG)) (key:List UInt8) (hkey:key.length≤1125899906842624)
    (x:Lk) (hxf:x.f.length≤1125899906842624) (hxt:x.t.length≤1125899906842624) (hxy:x.y.length≤1125899906842624) (z:El) (hz:ElBig z) (hzr:ElRange z) (H:GH) (hbo:H.bo≤H.objs.length) (hbt:H.bt≤H.toks.length) :
    ∃ H',ecall T2 zkG [ve,.str (mkB key),.agg (lkC x),.agg (elC z)] H=some (.bool true,H'):=by
  have hfx:=zrZ
  obtain ⟨fb,hfew,hfb⟩:=zAE E hE (fun e he=>(hin e he).big) ve hve H
  have hfew:=up hfew
  have hlz:(elC z).length=5:=rfl
  have htz:List.take 5 (elC z)=elC z:=rfl
  have hlx:(lkC x).length=3:=rfl
  have htx:List.take 3 (lkC x)=lkC x:=rfl
  have x0:∀ h,(lkC x)[0]'h=.str (mkB x.f):=fun _=>rfl
  have x1:∀ h,(lkC x)[1]'h=.str (mkB x.t):=fun _=>rfl
  have x2:∀ h,(lkC x)[2]'h=.str (mkB x.y):=fun _=>rfl
  have w1:IntKind.i64.wrap ((key.length:Int)+x.f.length)=(key.length:Int)+x.f.length:=zaq (by omega) (by omega)
  have w2:IntKind.i64.wrap ((key.length:Int)+x.f.length+x.t.length)=(key.length:Int)+x.f.length+x.t.length:=zaq (by omega) (by omega)
  have w3:IntKind.i64.wrap ((key.length:Int)+x.f.length+x.t.length+x.y.length)=(key.length:Int)+x.f.length+x.t.length+x.y.length:=zaq (by omega) (by omega)
  have goal:optW (ecall T2 zkG [ve,.str (mkB key),.agg (lkC x),.agg (elC z)] H) fun r=>∃ H',r=(.bool true,H'):=by
    rw [zad (zqB _ _ zAp) rfl (by simp [zq3]),zab]
    simp only [zq3,zzw]
    have hue:=zah hve
    have hok:=hve.ok
    cases fb with
    | false=>simp [hfx,hue,hok,hfew,hlz,htz,hlx,htx]
    | true =>
      by_cases hg:300<(key.length:Int)+x.f.length+x.t.length+x.y.length
      · simp [hfx,hue,hok,hfew,hlz,htz,hlx,htx,x0,x1,x2,w1,w2,w3,hg]
      · obtain ⟨hl60,hsh⟩:=hfb rfl
        have hfit:∀ e∈E,EvFit e:=fun e he=>(hin e he).fit (hsh e he)
        obtain ⟨vr,H1,hca,hG⟩:=zpe E (by omega) hfit ve hve H hbt
        have hca:=up hca
        have hrow:=zzq hl60 hfit
        have hcl:=(zgv E).2
        generalize (zbk E).1=R at hrow hG
        generalize (zbk E).2=kv at hcl hca
        have hrok:=hG.ok
        have hre:=hG.app.elems
        have hrl:=hre.len
        have hru:=zah hre
        simp only [List.length_map] at hrl
        have hbo1:H1.bo≤H1.objs.length:=by rw [hG.step.objs,hG.step.bo]; exact hbo
        have hbt1:H1.bt≤H1.toks.length:=hG.step.btle hbt
        have hone:∀ z:List GV,z.length=16→zaf z 0 (kv.map ziy)=some (kv.map ziy):=fun z hz=>by
          simp only [zaf,hz,List.length_map,hcl]; simp [hcl,hz]
        have ho2:kv.all (GV.one ∘ ziy)=true:=by rw [List.all_eq_true]; intros; rfl
        have t3:List.take 16 kv=kv:=List.take_of_length_le (by omega)
        obtain ⟨n,H2,hvw,hV,hB,hn1,hn2,hbt2,hbo2⟩:=zxF hrow vr hre H1 hbo1 hbt1
        have hV':VDone H2 n (zhF R) (zfD R) (fun a=>(zfD R).filter fun x=>decide (x.f=a)) (fun a=>(zfD R).filter fun x=>decide (x.t=a)):=hV
        have hvr:RowV R vr:=⟨hrow,hre⟩
        have hvals:=zvq hrow
        have eV:(zhF R).values z=zbE R z:=zhD hvals z
        have eL:(zhF R).labels key=zef R key:=zmv _ key
        have eN:(zhF R).names z=zgS R z:=zoW hrow hvals z
        have hkz:=zjZ hz hzr
        have hkx:zay true kLs (elG (zcM x))=true:=zjZ ⟨hxf,hxt,hxy,by simp⟩ ⟨by simp,by simp⟩
        have nV:=zo3 hrow z
        have nL:=zo4 hrow key
        have nN:=zr6 hrow z
        obtain ⟨va,cva,hva⟩:=zmA hV' z hkz (by rw [eV]; omega)
        rw [eV] at hva
        obtain ⟨vb,cvb,hvb⟩:=zhG hvr z H2
        have cH:=zvo hV' key hkey
        rw [zxG] at cH
        have cN:=zfH hvr key H2
        obtain ⟨la,cla,hla⟩:=zmz hV' key hkey (by rw [eL]; omega)
        rw [eL] at hla
        obtain ⟨lb,clb,hlb⟩:=zmC hvr key H2
        have cls:=zr4 _ (by omega) la lb hla hlb H2
        have cHL:=zk0 hV' x hkx
        rw [zxH] at cHL
        have cRL:=zgT hvr x H2
        obtain ⟨na,cna,hna⟩:=zoZ hV' z hkz (by rw [eN]; omega)
        rw [eN] at hna
        obtain ⟨nb,cnb,hnb⟩:=zo2 hvr z H2
        have cns:=zr4 _ (by omega) na nb hna hnb H2
        have cva:=up cva
        have cvb:=up cvb
        have cH:=up cH
        have cN:=up cN
        have cla:=up cla
        have clb:=up clb
        have cls:=up cls
        have cHL:=up cHL
        have cRL:=up cRL
        have cna:=up cna
        have cnb:=up cnb
        have cns:=up cns
        have a1:=hva.len
        have a2:=zah hva
        have a3:=hva.ok
        have b1:=hvb.len
        have b2:=zah hvb
        have b3:=hvb.ok
        have la2:=zah hla
        have la3:=hla.ok
        have lb2:=zah hlb
        have lb3:=hlb.ok
        have na2:=zah hna
        have na3:=hna.ok
        have nb2:=zah hnb
        have nb3:=hnb.ok
        simp only [List.length_map] at a1 b1
        simp [hfx,hue,hok,hfew,hlz,htz,hlx,htx,x0,x1,x2,w1,w2,w3,hg,hca,hrok,hrl,hru,hcl,hone,ho2,t3,hvw,cva,cvb,a1,a2,a3,b1,b2,b3]
        rw [zat,zal]
        refine zr5 (zbE R z) (by omega) va vb hva hvb (.tup []) (.tup []) _ _ H2 _ (by simp [a2]) (by simp [b2]) (by simp) (by simp) ?_
        intro l g hf
        have k11:=hf.get 11 rfl (v:=.ptr (n+6) 0) (by simp) rfl
        have k9:=hf.get 9 rfl (v:=vr) (by simp [hru]) (by simp [hre.boxy])
        have k1:=hf.get 1 rfl (v:=.str (mkB key)) (by simp) rfl
        have k6:=hf.get 6 rfl (v:=.lbox 0 (lkC x)) (by simp) rfl
        have k7:=hf.get 7 rfl (v:=.lbox 1 (elC z)) (by simp) rfl
        simp [k11,k9,k1,k6,k7,hru,hrok,hlz,htz,hlx,htx,cH,cN,cla,clb,cls,cHL,cRL,cna,cnb,cns,la2,la3,lb2,lb3,na2,na3,nb2,nb3]
  obtain ⟨r,h,H',rfl⟩:=goal
  exact ⟨H',h⟩
end Go.Proofs.YtchjbidfmhmmhaaGreatDoor
namespace Go.Proofs.YtchjbidfmhmmhaaGreatDoor
open Go.Sh Go.ChangeShapes Go.WideShapes Go.ChangeAt Go.RowKit
set_option maxRecDepth 100000
abbrev zDD:Shape:=.row [.str,.str,.str]
theorem zvs {c:List GV} (h:Fits zDD c):∃ x:Lk,c=lkC x∧x.f.length≤1125899906842624∧x.t.length≤1125899906842624∧x.y.length≤1125899906842624:=by
  obtain ⟨a1,b1,rfl,f1,g1⟩:=za9 h
  obtain ⟨a2,b2,rfl,f2,g2⟩:=za9 g1
  obtain ⟨a3,b3,rfl,f3,g3⟩:=za9 g2
  obtain rfl:=zgw g3
  obtain ⟨a,rfl,ha⟩:=zdy f1
  obtain ⟨b,rfl,hb⟩:=zdy f2
  obtain ⟨c,rfl,hc⟩:=zdy f3
  exact ⟨⟨a,b,c⟩,rfl,ha,hb,hc⟩
theorem ziL (gargs:List GV) (h:ArgsFit [.slice zB1,.str,zDD,zB0] gargs):∃ H',ecall T2 zkG gargs (zlZ Tryz.prog.globals.size)=some (.bool true,H'):=by
  cases h with
  | cons h1 t1 =>
  cases t1 with
  | cons h2 t2 =>
  cases t2 with
  | cons h3 t3 =>
  cases t3 with
  | cons h4 t4 =>
    cases t4
    obtain ⟨E,hE,he,hel⟩:=ztu (f:=evG) (fun c hc=>zxP hc) h1
    obtain ⟨t,rfl,ht⟩:=zdy h2
    obtain ⟨x,rfl,hx1,hx2,hx3⟩:=zvs h3
    obtain ⟨z,rfl,hz,hzr⟩:=znT h4
    exact zk3 E (by unfold maxLen at hel; omega) he _ hE t ht x hx1 hx2 hx3 z hz hzr _ (by simp [zlZ]) (by simp [zlZ])
end Go.Proofs.YtchjbidfmhmmhaaGreatDoor
