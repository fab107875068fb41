/- Own work: the zaM machine and what it shows, part Gz. -/
import Derived.Test.YtchjbidfmhmmhaaGreatDoorGx
import Derived.Test.YtchjbidfmhmmhaaGreatDoorEl
set_option linter.all false
namespace Go.Proofs.YtchjbidfmhmmhaaGreatDoor
open Go.Sh
set_option maxHeartbeats 4000000
set_option maxRecDepth 100000
theorem zut (x:Lk) (H:GH):ecall T zxN [.agg (lkC x)] H=some (.agg (elC (zgd x)),H):=by
 apply optW.eq
 rw [zbc zG1 rfl (by simp [ztS]),zab]
 simp [ztS,zDw,elC,lkC,zaf,zaa,zmo]
structure RowV (R:List Evt) (vr:GV):Prop where
 row:Row R
 el:Elems 27 vr (R.map evG)
theorem RowV.ok {R:List Evt} {vr:GV} (h:RowV R vr):∀ e∈R,EvOk e:=fun e he=>⟨h.row.fit e he,((zgv rfl h.row.causl).2 e he).1⟩
theorem zpI {R:List Evt} {vr:GV} (h:RowV R vr) (x:El) (H:GH):ecall T zs6 [vr,.agg (elC x)] H=some (.bool (zjE R x),H):=by
 obtain ⟨v,H',hc,hG⟩:=zpK (by have:=h.row.le; omega) h.ok vr h.el x H.over (Nat.le_refl _)
 have e:=hG.app.elems
 have l:=e.len
 simp only [List.length_map] at l
 have hu:=h.el.unb
 have ho:=h.el.ok
 have hlx:(elC x).length=5:=rfl
 have htx:List.take 5 (elC x)=elC x:=rfl
 apply optW.eq
 rw [zbc zG5 rfl (by simp [ztW]),zab]
 have hb:decide (0<(zg6 R x).length)=zjE R x:=by
  unfold zjE; cases zg6 R x <;> simp
 rw [← hb]
 simp [ztW,zDy,hu,ho,hlx,htx,hc,e.unb,e.ok,l]
theorem zix {R:List Evt} {vr:GV} (h:RowV R vr) (a:List UInt8) (H:GH):ecall T zqE [vr,.str (mkB a)] H=some (.bool (zjF R a),H):=by
 have hc:=fun H=>zpI h (zbg a) H
 have hu:=h.el.unb
 have ho:=h.el.ok
 simp only [elC] at hc
 apply optW.eq
 rw [zbc zGC rfl (by simp [zty]),zab]
 simp at hc
 simp [zty,zDd,hu,ho,zaf,zaa,hc,zjF]
theorem zmp {R:List Evt} {vr:GV} (h:RowV R vr) (x:Lk) (H:GH):ecall T zxz [vr,.agg (lkC x)] H=some (.bool (zhT R x),H):=by
 have hc:=fun H=>zpI h (zgd x) H
 have hE:=fun H=>zut x H
 have hf:=fun H=>zix h x.f H
 have ht:=fun H=>zix h x.t H
 have hu:=h.el.unb
 have ho:=h.el.ok
 simp only [lkC] at hE ⊢
 apply optW.eq
 rw [zbc zGD rfl (by simp [znV]),zab]
 unfold zhT
 cases h1:zjE R (zgd x)
 ·rw [h1] at hc
  simp [znV,zya,hu,ho,hE,hc]
 ·rw [h1] at hc
  cases h2:zjF R x.f
  ·rw [h2] at hf
   simp [znV,zya,hu,ho,hE,hc,hf]
  ·rw [h2] at hf
   simp [znV,zya,hu,ho,hE,hc,hf,ht]
theorem zuu {R:List Evt} {vr:GV} (h:RowV R vr) (e:El) (H:GH):ecall T zxP [vr,.agg (elC e)] H=some (.bool (zoa R e),H):=by
 have hN:=fun H=>zix h e.a H
 have hL:=fun H=>zmp h (zcG e) H
 have hu:=h.el.unb
 have ho:=h.el.ok
 obtain ⟨ek,ea,eb,ec,ed⟩:=e
 simp only [lkC] at hL hN
 apply optW.eq
 rw [zbc zG2 rfl (by simp [zl4]),zab]
 unfold zoa
 by_cases h2:ek=2
 ·simp [zl4,ztT,elC,hu,ho,h2,hN]
 ·by_cases h4:ek=4
  ·simp [zl4,ztT,elC,hu,ho,h4,hN]
  ·by_cases h5:ek=5
   ·simp [zl4,ztT,elC,hu,ho,h5,hL,zaf,zaa]
   ·simp [zl4,ztT,elC,hu,ho,h2,h4,h5]
abbrev zfH (x:Vl):Vl→Bool:=fun y=>decide (zdr y x<0)
theorem zAW (x:Evt) (hx:EvFit x) (out:List Vl) (ho:out.length≤1000) (hsm:∀ y∈out,y.t.length≤1048576) (v:GV) (hv:Elems 3 v (out.map vlG)) (g7:Nat) (l0:List GV) (g0:Nat) (H0:GH) (K:GExit × St→Prop)
 (h5:zai l0 5=v) (h7:zai l0 7=.lbox g7 (evC x)) (h8:zai l0 8=.int .i64 0)
 (hk:∀ l g,zai l 8=.int .i64 (ixP (zfH (zc2 x)) out)→Fr zjY l0 l→K (.exit 2,⟨⟨l,g⟩,H0⟩)) :
 optW (erun T (.loop zjY) ⟨⟨l0,g0⟩,H0⟩) K:=by
 refine zdS (l0:=l0) (fun m l g H=>H=H0∧∃ i:Nat,m=out.length - i∧i≤out.length∧zai l 8=.int .i64 i∧∀ k,k<i→∀ y,out[k]?=some y→zfH (zc2 x) y=true) ?_ out.length l0 g0 H0 ⟨rfl,0,rfl,Nat.zero_le _,h8,fun k hk=>by omega⟩ (.refl _ _ _)
 intro m l g H ⟨hH,i,hm,hi,q8,lo⟩ hf
 subst hH
 have q5:=hf.get 5 rfl h5 (by simp [hv.boxy])
 have q7:=hf.get 7 rfl h7 rfl
 have hl:=hv.len
 have hu:=zad hv
 have hok:=hv.ok
 have l1:=zdv hx.past
 have vc:=znn hx.past
 simp only [List.length_map] at hl
 by_cases hlt:i<out.length
 ·have hlt':(i:Int)<out.length:=by omega
  obtain ⟨lt,ix,opt,get,⟨t,sl⟩,wr_,mem⟩:=zbL (e:=vlG) hv hlt (by omega)
  generalize out[i]'hlt=y at opt get mem
  have hle:=fun H=>zjm y (zc2 x) (hsm y mem) H
  have hw:IntKind.i64.wrap ((i:Int)+1)=(i:Int)+1:=zar (by omega) (by omega)
  have hlx:(vlC y).length=3:=rfl
  have htx:List.take 3 (vlC y)=vlC y:=rfl
  have hlx':(vlC (zc2 x)).length=3:=rfl
  rw [sl] at q5
  by_cases hb:zdr y (zc2 x)<0
  ·simp [zjY,q5,q7,q8,hl,hlt',ix,opt,hlx,htx,hlx',l1,vc,hle,hw,hb]
   refine ⟨out.length - (i+1),by omega,i+1,rfl,by omega,by simp,fun k hk z hz=>?_⟩
   rcases Nat.lt_or_ge k i with h | h
   ·exact of_decide_eq_true (lo k h z hz)
   ·have:k=i:=by omega
    rw [this,opt] at hz
    injection hz with hz
    rw [← hz]; exact hb
  ·have hix:=zyq (p:=zfH (zc2 x)) hi lo (fun z hz=>by rw [opt] at hz; injection hz with hz; rw [← hz]; exact decide_eq_false hb)
   simp [zjY,q5,q7,q8,hl,hlt',ix,opt,hlx,htx,hlx',l1,vc,hle,hw,hb]
   exact fun hf'=>hk _ _ (by simp [q8,hix]) hf'
 ·have hie:i=out.length:=by omega
  have hix:=zyq (p:=zfH (zc2 x)) hi lo (fun z hz=>by rw [hie] at hz; simp at hz)
  simp [zjY,q5,q7,q8,hl,hu,hok,hlt]
  exact fun hf'=>hk _ _ (by simp [q8,hix]) hf'
theorem zpJ (out:List Vl) (x:Vl):(zg5 out x).length≤out.length+1:=by
 unfold zg5; split
 ·omega
 ·rw [zyr]; exact Nat.le_refl _
theorem zyo {out:List Vl} {x z:Vl} (h:z∈zg5 out x):z=x∨z∈out:=by
 unfold zg5 at h; split at h
 ·exact .inr h
 ·exact insP_mem.1 h
theorem zuv (F:List Evt) (hF:F.length≤500) (hfit:∀ e∈F,EvFit e) (vx:GV) (hvx:Elems 27 vx (F.map evG)) (l0:List GV) (g0:Nat) (H0:GH) (hbt:H0.bt≤H0.toks.length) (K:GExit × St→Prop)
 (h20:zai l0 20=vx) (h21:zai l0 21=.int .i64 F.length) (h22:zai l0 22=.int .i64 0) (h5:zai l0 5=.nilsl)
 (he:∀ l g H v,zai l 5=v→Elems 3 v (((F.map zc2).foldl zg5 []).map vlG)→TokStep none H0 H→Fr ztw l0 l→K (.exit 0,⟨⟨l,g⟩,H⟩)) :
 optW (erun T (.loop ztw) ⟨⟨l0,g0⟩,H0⟩) K:=by
 refine zaN (T:=T) (n:=F.length) (A:=GV) (fun _ s=>[(5,s)]) (fun i s _ H'=>Elems 3 s ((((F.take i).map zc2).foldl zg5 []).map vlG)∧TokStep none H0 H'∧(((F.take i).map zc2).foldl zg5 []).length≤i∧∀ y∈((F.take i).map zc2).foldl zg5 [],y.t.length≤1048576) (c:=23) (b:=0) (I:=22) (N:=21) (d:=68) rfl (by omega) (by decide) ⟨rfl,rfl⟩ (by simp) ?_ ?_ 0 .nilsl _ _ H0 (by omega) ⟨by rw [List.take_zero]; exact .nil,.refl _ _,by simp,by simp⟩ (by simp [h5]) (.refl _ _ _) h22 h21
 ·intro i s l g H' hi ⟨hE,hT,hol,hsm⟩ hh hf hI
  have k20:=hf.get 20 rfl h20 (by simp [hvx.boxy])
  obtain ⟨lt,ix,opt,get,⟨t,sv⟩,wr_,mem⟩:=zbL (e:=evG) hvx hi (by omega)
  generalize F[i]'hi=e at opt get mem
  have hfe:=hfit e mem
  have l1:=zdv hfe.past
  have l4:List.take 27 (evC e)=evC e:=List.take_of_length_le (by rw [l1]; exact Nat.le_refl _)
  have lo:=zih hfe.past
  have sp:=zkb hfe.past
  have vc:=znn hfe.past
  have hst:((F.take (i+1)).map zc2).foldl zg5 []=zg5 (((F.take i).map zc2).foldl zg5 []) (zc2 e):=by
   rw [List.take_add_one,opt,List.map_append,List.foldl_append]; rfl
  have hol':=zpJ (((F.take i).map zc2).foldl zg5 []) (zc2 e)
  have hsm':∀ y∈zg5 (((F.take i).map zc2).foldl zg5 []) (zc2 e),y.t.length≤1048576:=fun y hy=>by
   rcases zyo hy with rfl | hy
   ·exact hfe.t
   ·exact hsm y hy
  rw [hst]
  generalize ((F.take i).map zc2).foldl zg5 []=out at hE hol hol' hsm hsm'
  simp only [zaE,zaL,and_true] at hh
  rw [sv] at k20
  have hu:=zad hE
  have hl:=hE.len
  have hk:=hE.ok
  simp only [List.length_map] at hl
  simp [k20,hI,ix,opt,get,sp,l1,l4,lo]
  rw [zap,zav,zap]
  refine zAW e hfe out (by omega) hsm s hE g _ _ H' _ (by simp [hh]) (by simp) (by simp) ?_
  intro l2 g2 k8 hf2
  have k5:=hf2.get 5 rfl (v:=s) (by simp [hh]) (by simp [hE.boxy])
  have k7:=hf2.get 7 rfl (v:=.lbox g (evC e)) (by simp) rfl
  have hix:=zEv (zfH (zc2 e)) out
  have hb:=hT.btle hbt
  have hlx:(vlC (zc2 e)).length=3:=rfl
  have htx:List.take 3 (vlC (zc2 e))=vlC (zc2 e):=rfl
  have hvo:(vlC (zc2 e)).all GV.one=true:=rfl
  unfold zg5 at hol' hsm' ⊢
  by_cases heq:out[ixP (zfH (zc2 e)) out]?=some (zc2 e)
  ·rw [if_pos heq] at hol' hsm' ⊢
   have hlt:ixP (zfH (zc2 e)) out<out.length:=(List.getElem?_eq_some_iff.1 heq).1
   obtain ⟨lt2,ix2,opt2,get2,⟨t2,sv2⟩,_,_⟩:=zbL (e:=vlG) hE hlt (by omega)
   rw [heq] at opt2
   have hg:∀ h,out[ixP (zfH (zc2 e)) out]'h=zc2 e:=fun _=>(List.getElem?_eq_some_iff.1 heq).2
   have lv:=zaj (zc2 e) (zc2 e)
   have hne:¬ ((ixP (zfH (zc2 e)) out:Int)=out.length):=by omega
   rw [sv2] at k5
   generalize ixP (zfH (zc2 e)) out=k at *
   simp [k5,k7,k8,hl,hne,ix2,hg,heq,l1,vc,hlx,htx,lv]
   exact fun _=>⟨by rw [← sv2]; exact hE,hT,by omega,hsm'⟩
  ·rw [if_neg heq] at hol' hsm' ⊢
   unfold zlF at hol' hsm' ⊢
   have c54:(ixP (zfH (zc2 e)) out=out.length)∨(∃ y,ixP (zfH (zc2 e)) out<out.length∧out[ixP (zfH (zc2 e)) out]?=some y∧y≠zc2 e):=by
    by_cases h:ixP (zfH (zc2 e)) out=out.length
    ·exact .inl h
    ·have hlt:ixP (zfH (zc2 e)) out<out.length:=by omega
     refine .inr ⟨_,hlt,List.getElem?_eq_getElem hlt,fun h=>heq ?_⟩
     rw [List.getElem?_eq_getElem hlt,h]
   generalize ixP (zfH (zc2 e)) out=k at *
   have g1:zaK (out.map vlG).length false true false [.int .i64 (k:Int)]=some (0,k,none):=by
    simp only [zaK,List.length_map,zfX hix,Option.map_some]
   have g2':zaK (out.map vlG).length true false false [.int .i64 (k:Int)]=some (k,out.length,none):=by
    simp only [zaK,List.length_map,zfX hix,Option.map_some]
   obtain ⟨c1,d1,e1⟩:=hE.cut g1
   obtain ⟨c2,d2,e2⟩:=hE.cut g2'
   have o1:=e1.ok
   have o2:=e2.ok
   obtain ⟨m,H1,n,H2,r,H3,b1,b2,b3,b4,b5,b6,b7,b8⟩:=zmu (H:=H') (ty:=34) (bytes:=32) (z:=vlG (zc2 e)) e1 e2 (by simp [zbS]) hb (by simp; omega) (by omega)
   have hx:((out.map vlG).drop 0).take (k - 0)++vlG (zc2 e)::((out.map vlG).drop k).take (out.length - k)=(out.take k++(zc2 e)::out.drop k).map vlG:=by
    rw [List.drop_zero,Nat.sub_zero,List.map_append,List.map_cons,List.map_take,List.map_drop,List.take_of_length_le (l:=(out.map vlG).drop k) (by simp)]
   rw [hx] at b7
   simp only [vlG] at b3
   rcases c54 with hke | ⟨y,hlt,hy,hne⟩
   ·subst hke
    simp [-ze3,k5,k7,k8,hl,hu,hk,d1,d2,o1,o2,zan,zaf,b1,b2,b3,b4,b5,b6,l1,vc,hlx,htx,hvo]
    exact fun _=>⟨by simpa using b7,hT.trans b8,by have h9:=hol'; simp at h9 ⊢; omega,by simpa using hsm'⟩
   ·obtain ⟨lt2,ix2,opt2,get2,⟨t2,sv2⟩,_,_⟩:=zbL (e:=vlG) hE hlt (by omega)
    have lv:=zaj y (zc2 e)
    have hke':¬ ((k:Int)=out.length):=by omega
    have hly:(vlC y).length=3:=rfl
    have hty:List.take 3 (vlC y)=vlC y:=rfl
    rw [sv2] at k5 d1 d2
    simp [-ze3,k5,k7,k8,hl,hu,hk,hke',ix2,hy,hly,hty,lv,hne,d1,d2,o1,o2,zan,zaf,b1,b2,b3,b4,b5,b6,l1,vc,hlx,htx,hvo]
    exact fun _=>⟨by simpa using b7,hT.trans b8,by have h9:=hol'; simp at h9 ⊢; omega,by simpa using hsm'⟩
 ·intro s l g H' ⟨hE,hT,_⟩ hh hf
  simp only [zaE,zaL,and_true] at hh
  rw [List.take_length] at hE
  exact he l g H' s hh hE hT hf
theorem ziy {R:List Evt} {vr:GV} (h:RowV R vr) (e:El) (H:GH):∃ v,ecall T zqD [vr,.agg (elC e)] H=some (v,H)∧Elems 3 v ((zdz R e).map vlG):=by
 have hle:=h.row.le
 obtain ⟨vx,H1,hx,hG⟩:=zpK (by omega) h.ok vr h.el e H.over (Nat.le_refl _)
 have hE:=hG.app.elems
 have l:=hE.len
 simp only [List.length_map] at l
 have hS:=fun H=>zuu h e H
 have hlx:(elC e).length=5:=rfl
 have htx:List.take 5 (elC e)=elC e:=rfl
 have hx0:∀ h,(elC e)[0]'h=.int .i64 e.k:=fun _=>rfl
 have hlv:(zg6 R e).length≤500:=Nat.le_trans (List.length_filter_le _ _) (by omega)
 have goal:optW (ecall T zqD [vr,.agg (elC e)] H) fun r=>∃ v,r=(v,H)∧Elems 3 v ((zdz R e).map vlG):=by
  rw [zbc zGB rfl (by simp [ztx]),zab]
  simp only [ztx,zDc]
  have vu:=h.el.unb
  have vo:=h.el.ok
  unfold zdz
  by_cases hk:e.k<4
  ·simp [vu,vo,hlx,htx,hx0,hk]
   exact .nil
  ·cases hs:zoa R e with
   | false =>
    rw [hs] at hS
    simp [vu,vo,hlx,htx,hx0,hk,hS]
    exact .nil
   | true =>
    rw [hs] at hS
    simp [vu,vo,hlx,htx,hx0,hk,hS,hx,hE.unb,hE.ok,l]
    rw [zav,zap]
    refine zuv (zg6 R e) hlv (fun y hy=>h.row.fit y (List.mem_filter.1 hy).1) vx hE _ _ H1 (hG.step.btle (Nat.le_refl _)) _ (by simp [hE.unb]) (by simp) (by simp) (by simp) ?_
    intro l4 g4 H4 v k5 hE4 hT4 hf4
    obtain ⟨v2,d1,d2⟩:=zbQ (a:=H.objs.length) (b:=H.toks.length) (n:=99) hE4 (fun x hx=>by obtain ⟨y,_,rfl⟩:=List.mem_map.1 hx; rfl)
    simp [k5,hE4.unb,hE4.ok,d1]
    simpa using d2
 obtain ⟨r,hr,v,rfl,h2⟩:=goal
 exact ⟨v,hr,h2⟩
theorem zmq:∀ (l out:List Vl),(l.foldl zg5 out).length≤out.length+l.length
 | [],out=>by simp
 | x::l,out=>by
  rw [List.foldl_cons,List.length_cons]
  have h1:=zmq l (zg5 out x)
  have h2:=zpJ out x
  omega
theorem zka {R:List Evt} (h:Row R) (e:El):(zdz R e).length≤60:=by
 unfold zdz
 split
 ·simp
 ·have h1:=zmq ((zg6 R e).map zc2) []
  have h2:(zg6 R e).length≤R.length:=List.length_filter_le _ _
  have h3:=h.le
  simp only [List.length_map,List.length_nil] at h1
  omega
end Go.Proofs.YtchjbidfmhmmhaaGreatDoor
