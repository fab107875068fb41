/- Own work: the zaG machine and what it shows, part Gw. -/
import Derived.Test.YtchjbidfmhmmhaaGreatDoorGv
set_option linter.all false
namespace Go.Proofs.YtchjbidfmhmmhaaGreatDoor
open Go.Sh
set_option maxHeartbeats 4000000
set_option maxRecDepth 100000
theorem zmx {x:El} (h:zbl x.k x.a x.b x.c x.d=true):x.k=1∨x.k=2∨x.k=3∨x.k=4∨x.k=5:=by
 simp only [zbl] at h
 by_cases h1:x.k=1
 ·exact .inl h1
 ·by_cases h2:x.k=2
  ·exact .inr (.inl h2)
  ·by_cases h3:x.k=3
   ·exact .inr (.inr (.inl h3))
   ·by_cases h4:x.k=4
    ·exact .inr (.inr (.inr (.inl h4)))
    ·by_cases h5:x.k=5
     ·exact .inr (.inr (.inr (.inr h5)))
     ·simp [h1,h2,h3,h4,h5] at h
structure SeeOk (S:List Stp) (e:El):Prop where
 big:ElBig e
 key:zaA true kLs (elG e)=true
 len:(zb2 S e).length≤1000
 may:zbl e.k e.a e.b e.c e.d=true
theorem zAw {own:Nat→Option Key} {H:GH} {n:Nat} {w:Vw} (hV:VIs own H n w) {k:Nat} (hB:VwB w k) (hk:k≤1000) {s m:Nat} {S:List Stp} (hS:zvB H s m S) (hsn:s<n) (hmn:m<n) (e:El) (he:SeeOk S e) :
 ∃ own' H',ecall T zeK [.ptr (n+6) 0,.ptr s 0,.agg (elC e)] H=some (.tup [],H')∧VIs own' H' n (zix (zb5 S) w e)∧Below n H H':=by
 rcases zmx he.may with h | h | h | h | h
 ·have:=zvm hV hB hk s e he.key h
  rwa [show zix (zb5 S) w e={ w with there:=ze3 w.there e true,nodes:=w.nodes++[e.a] } by simp [zix,h]]
 ·have:=zrW hV hB hk s e he.big h
  rwa [show zix (zb5 S) w e=(if w.there (zaw e.a) then { w with labels:=ze3 w.labels e.a (w.labels e.a++[e.d]) } else w) by simp [zix,h]]
 ·have:=zvn hV hB hk s e he.big he.key h
  rwa [show zix (zb5 S) w e=(if w.there (zaw e.a)&&w.there (zaw e.b) then { w with there:=ze3 w.there e true,links:=w.links++[zcd e] } else w) by simp [zix,h]]
 all_goals
  have:=zrY hV hB hk hS hsn hmn e he.big he.key he.len (by omega)
  rwa [show zix (zb5 S) w e=(if w.there (zan e) then { w with values:=ze3 w.values e (zb5 S e),names:=ze3 w.names (zan e) (w.names (zan e)++[e.d]) } else w) by simp [zix,h]]
theorem VwB.step {vals:El→List Vl} {w:Vw} {k:Nat} (h:VwB w k) (e:El):VwB (zix vals w e) (k+1):=by
 have h0:VwB w (k+1):=⟨Nat.le_succ_of_le h.nodes,Nat.le_succ_of_le h.links,fun a=>Nat.le_succ_of_le (h.labels a),fun a=>Nat.le_succ_of_le (h.names a)⟩
 unfold zix
 split
 ·exact ⟨by simpa using h.nodes,h0.links,h0.labels,h0.names⟩
 split
 ·split
  ·refine ⟨h0.nodes,h0.links,fun a=>?_,h0.names⟩
   simp only [ze3]
   split
   ·simpa using h.labels e.a
   ·exact h0.labels a
  ·exact h0
 split
 ·split
  ·exact ⟨h0.nodes,by simpa using h.links,h0.labels,h0.names⟩
  ·exact h0
 split
 ·split
  ·refine ⟨h0.nodes,h0.links,h0.labels,fun a=>?_⟩
   simp only [ze3]
   split
   ·simpa using h.names (zan e)
   ·exact h0.names a
  ·exact h0
 ·exact h0
theorem VwB.all (vals:El→List Vl):∀ (G:List El) (w:Vw) (k:Nat),VwB w k→VwB (G.foldl (zix vals) w) (k+G.length)
 | [],w,k,h=>h
 | e::G,w,k,h=>by
  have:=VwB.all vals G _ _ (h.step (vals:=vals) e)
  rw [List.length_cons,show k+(G.length+1)=k+1+G.length by omega]
  exact this
theorem zAx (S':List Stp) (hl:S'.length≤900) {S:List Stp} (hok:∀ p∈S',SeeOk S p.1) (va:GV) (hva:Elems 6 va (S'.map itG)) (s m n:Nat) (hsn:s<n) (hmn:m<n) (zxX:Nat→Option Key) (l0:List GV) (g0:Nat) (H0:GH) (hS:zvB H0 s m S) (hV:VIs zxX H0 n .none) (K:GExit × St→Prop)
 (h17:zag l0 17=va) (h18:zag l0 18=.int .i64 S'.length) (h19:zag l0 19=.int .i64 0) (h3:zag l0 3=.ptr (n+6) 0) (h0:zag l0 0=.ptr s 0)
 (he:∀ l g H own,VIs own H n (zdW (zb5 S) (S'.map (·.1)))→Below n H0 H→Fr zrd l0 l→K (.exit 0,⟨⟨l,g⟩,H⟩)) :
 optW (erun T2 (.loop zrd) ⟨⟨l0,g0⟩,H0⟩) K:=by
 refine za5 (T:=T2) (n:=S'.length) (A:=Nat→Option Key) (fun _ _=>[]) (fun i own _ H'=>VIs own H' n (zdW (zb5 S) ((S'.take i).map (·.1)))∧Below n H0 H') (c:=20) (b:=0) (I:=19) (N:=18) (d:=28) rfl (by omega) (by decide) ⟨rfl,rfl⟩ (by simp) ?_ ?_ 0 zxX _ _ H0 (by omega) ⟨hV,.refl _ _⟩ (by simp) (.refl _ _ _) h19 h18
 ·intro i own l g H' hi hP hh hf hI
  obtain ⟨hV',hB'⟩:=hP
  have k17:=hf.get 17 rfl h17 (by simp [hva.boxy])
  have k3:=hf.get 3 rfl h3 rfl
  have k0:=hf.get 0 rfl h0 rfl
  obtain ⟨lt,ix,opt,get,⟨t,sv⟩,wr_,mem⟩:=zeU (e:=itG) hva hi (by omega)
  generalize S'[i]'hi=p at opt get mem
  have ht:(S'.take (i+1)).map (·.1)=(S'.take i).map (·.1)++[p.1]:=by rw [List.take_add_one,opt]; simp
  have hseq:zdW (zb5 S) ((S'.take (i+1)).map (·.1))=zix (zb5 S) (zdW (zb5 S) ((S'.take i).map (·.1))) p.1:=by
   rw [ht]; simp [zdW,List.foldl_append]
  have hbd:VwB (zdW (zb5 S) ((S'.take i).map (·.1))) i:=by
   have:=VwB.all (zb5 S) ((S'.take i).map (·.1)) .none 0 ⟨by simp [Vw.none],by simp [Vw.none],fun _=>by simp [Vw.none],fun _=>by simp [Vw.none]⟩
   rw [List.length_map,List.length_take,Nat.zero_add,Nat.min_eq_left (by omega)] at this
   exact this
  obtain ⟨own',H2,hc,hV2,hB2⟩:=zAw hV' hbd (by omega) (hB'.rd hS hsn hmn) hsn hmn p.1 (hok p mem)
  have hc:=up hc
  rw [sv] at k17
  rw [hseq]
  simp only [elC] at hc
  simp [k17,hI,k3,k0,ix,opt,get,zqH,zae,hc]
  exact fun _=>⟨⟨own',by simpa [List.map_take] using hV2⟩,hB'.trans hB2⟩
 ·intro own l g H' hP hh hf
  rw [List.take_length] at hP
  exact he l g H' own hP.1 hP.2 hf
theorem zoY {H:GH} {q:Nat} {vs:List Lk} (hne:vs≠[]) (hle:vs.length≤1000000) (hq:H.objs[q]?=some (.row 73 (zg4 vs))) (hbq:H.bo≤q) :
 ecall T zuY [.hsl q 0 vs.length 3 false,.func 63 [] []] H=some (.tup [],{ H with objs:=H.objs.set q (.row 73 (zg4 (za3 (ltC zfq) vs))) }):=by
 refine zl7 zAl (by simp) ?_ ⟨rfl,rfl⟩
 have hpos:0<vs.length:=List.length_pos_iff.2 hne
 have hone:(zg4 vs).all GV.one=true:=by
  rw [List.all_eq_true]
  intro c hc
  obtain ⟨p,_,hp⟩:=List.mem_flatMap.1 hc
  simp only [lkC,List.mem_cons,List.not_mem_nil,or_false] at hp
  rcases hp with rfl | rfl | rfl <;> rfl
 have hrow:znq 3 vs.length (zg4 vs)=vs.map fun p=>lkC p:=zf4 (en:=lkC) (fun _=>rfl) vs
 have hdec:zur deL (znq 3 vs.length (zg4 vs))=some vs:=by
  rw [hrow]
  exact zhn (de:=deL) (en:=lkC) vs (fun b _=>by
   show (some ⟨(mkB b.f).data.toList,(mkB b.t).data.toList,(mkB b.y).data.toList⟩:Option Lk)=some b
   simp)
 simp only [zj5,zgW,hq]
 rw [if_pos ⟨trivial,trivial,hbq,hpos,by decide,hle,zhe vs,hone⟩,hdec]
 simp [zg4]
theorem zhB:∀ A:List Lk,za4 3 A.length (zg4 A)=A.map lkG
 | []=>rfl
 | v::A=>by
  show za4 3 (A.length+1) (lkC v++zg4 A)=_
  rw [za4]
  have h1:(lkC v++zg4 A).take 3=lkC v:=by simp [lkC]
  have h2:(lkC v++zg4 A).drop 3=zg4 A:=by simp [lkC]
  rw [h1,h2,zhB A]
  rfl
structure VDone (H:GH) (n:Nat) (w:Vw) (links:List Lk) (outs ins:List UInt8→List Lk):Prop where
 obj:∃ vn vl,H.objs[n+6]?=some (.cells 111 [vn,vl,.map n,.map (n+1),.map (n+2),.map (n+3),.map (n+4),.map (n+5)])∧Elems 1 vn (w.nodes.map za2)∧Elems 3 vl (links.map lkG)
 labels:∃ es,H.objs[n]?=some (.map false sLs es)∧MapIs false sLs za2 .nilsl (fun a v=>Elems 1 v ((w.labels a).map za2)) es
 outs:∃ es,H.objs[n+1]?=some (.map false sLs es)∧MapIs false sLs za2 .nilsl (fun a v=>Elems 3 v ((outs a).map lkG)) es
 ins:∃ es,H.objs[n+2]?=some (.map false sLs es)∧MapIs false sLs za2 .nilsl (fun a v=>Elems 3 v ((ins a).map lkG)) es
 values:∃ es,H.objs[n+3]?=some (.map true kLs es)∧MapIs true kLs elG .nilsl (fun x v=>Elems 3 v ((w.values x).map vlG)) es
 names:∃ es,H.objs[n+4]?=some (.map true kLs es)∧MapIs true kLs elG .nilsl (fun x v=>Elems 1 v ((w.names x).map za2)) es
 there:∃ es,H.objs[n+5]?=some (.map true kLs es)∧MapIs true kLs elG (.bool false) (fun x v=>v=.bool (w.there x)) es
theorem VDone.keep {H H':GH} {n:Nat} {w:Vw} {links:List Lk} {outs ins:List UInt8→List Lk} (h:VDone H n w links outs ins) (hk:∀ i,n≤i→i<n+7→H'.objs[i]?=H.objs[i]?):VDone H' n w links outs ins where
 obj:=by obtain ⟨a,b,c,d⟩:=h.obj; exact ⟨a,b,by rw [hk _ (by omega) (by omega)]; exact c,d⟩
 labels:=by obtain ⟨a,c,d⟩:=h.labels; exact ⟨a,by rw [hk _ (by omega) (by omega)]; exact c,d⟩
 outs:=by obtain ⟨a,c,d⟩:=h.outs; exact ⟨a,by rw [hk _ (by omega) (by omega)]; exact c,d⟩
 ins:=by obtain ⟨a,c,d⟩:=h.ins; exact ⟨a,by rw [hk _ (by omega) (by omega)]; exact c,d⟩
 values:=by obtain ⟨a,c,d⟩:=h.values; exact ⟨a,by rw [hk _ (by omega) (by omega)]; exact c,d⟩
 names:=by obtain ⟨a,c,d⟩:=h.names; exact ⟨a,by rw [hk _ (by omega) (by omega)]; exact c,d⟩
 there:=by obtain ⟨a,c,d⟩:=h.there; exact ⟨a,by rw [hk _ (by omega) (by omega)]; exact c,d⟩
structure VTwo (own:Nat→Option Key) (H0 H:GH) (n:Nat) (outs ins:List UInt8→List Lk):Prop where
 outs:∃ es,H.objs[n+1]?=some (.map false sLs es)∧MapIs false sLs za2 .nilsl (fun a v=>Ap own (3,zaw a) H 3 v ((outs a).map lkG)) es
 ins:∃ es,H.objs[n+2]?=some (.map false sLs es)∧MapIs false sLs za2 .nilsl (fun a v=>Ap own (4,zaw a) H 3 v ((ins a).map lkG)) es
 keep:∀ i,i≠n+1→i≠n+2→H.objs[i]?=H0.objs[i]?
 bo:H.bo=H0.bo
 bt:H.bt=H0.bt
 tk:H.bt≤H.toks.length
 len:H.objs.length=H0.objs.length
theorem zfC (p:Lk→Bool) (L:List Lk) (i:Nat) (x:Lk) (h:L[i]?=some x):(L.take (i+1)).filter p=(L.take i).filter p++(if p x then [x] else []):=by
 rw [List.take_add_one,h,List.filter_append]
 cases hp:p x <;> simp [hp]
theorem zvo (L:List Lk) (hl:L.length≤900) (hbig:∀ x∈L,x.f.length≤1125899906842624∧x.t.length≤1125899906842624) (v:GV) (hv:Elems 3 v (L.map lkG)) (n:Nat) (l0:List GV) (g0:Nat) (H0:GH) (zxX:Nat→Option Key) (hV:VTwo zxX H0 H0 n (fun _=>[]) fun _=>[]) (hbo:H0.bo≤n)
 {cs:GV × GV} (hobj:H0.objs[n+6]?=some (.cells 111 [cs.1,cs.2,.map n,.map (n+1),.map (n+2),.map (n+3),.map (n+4),.map (n+5)])) (hlen:n+7≤H0.objs.length) (K:GExit × St→Prop)
 (h37:zag l0 37=v) (h38:zag l0 38=.int .i64 L.length) (h39:zag l0 39=.int .i64 0) (h3:zag l0 3=.ptr (n+6) 0)
 (he:∀ l g H own,VTwo own H0 H n (fun a=>L.filter fun x=>decide (x.f=a)) (fun a=>L.filter fun x=>decide (x.t=a))→Fr zre l0 l→K (.exit 2,⟨⟨l,g⟩,H⟩)) :
 optW (erun T2 (.loop zre) ⟨⟨l0,g0⟩,H0⟩) K:=by
 refine za5 (T:=T2) (n:=L.length) (A:=Nat→Option Key) (fun _ _=>[]) (fun i own _ H'=>VTwo own H0 H' n (fun a=>(L.take i).filter fun x=>decide (x.f=a)) (fun a=>(L.take i).filter fun x=>decide (x.t=a))) (c:=40) (b:=2) (I:=39) (N:=38) (d:=75) rfl (by omega) (by decide) ⟨rfl,rfl⟩ (by simp) ?_ ?_ 0 zxX _ _ H0 (by omega) (by simpa using hV) (by simp) (.refl _ _ _) h39 h38
 ·intro i own l g H hi hP hh hf hI
  have k37:=hf.get 37 rfl h37 (by simp [hv.boxy])
  have k3:=hf.get 3 rfl h3 rfl
  obtain ⟨lt,ix,opt,get,⟨t,sv⟩,wr_,mem⟩:=zeU (e:=lkG) hv hi (by omega)
  generalize L[i]'hi=x at opt get mem
  obtain ⟨xf,xt,xy⟩:=x
  obtain ⟨bf,bt⟩:=hbig _ mem
  obtain ⟨es1,o1,o2⟩:=hP.outs
  obtain ⟨es2,i1,i2⟩:=hP.ins
  have hb1:H.bo≤n+1:=by rw [hP.bo]; omega
  have hb2:H.bo≤n+2:=by rw [hP.bo]; omega
  have l1:n+1<H.objs.length:=by rw [hP.len]; omega
  have l2:n+2<H.objs.length:=by rw [hP.len]; omega
  have k6:H.objs[n+6]?=_:=(hP.keep (n+6) (by omega) (by omega)).trans hobj
  have hkf:=zhA xf bf
  have hkt:=zhA xt bt
  -- the first map
  have hap:=o2.at_ xf hkf
  generalize hv0:(zaX es1 (za2 xf)).getD .nilsl=v0 at hap
  have hfl:((L.take i).filter fun x=>decide (x.f=xf)).length≤900:=Nat.le_trans (List.length_filter_le _ _) (by rw [List.length_take]; omega)
  obtain ⟨v1,t1,a1,a2,a3,a4,a5,a6,own1,a7,a8⟩:=zfA (ty:=73) (bytes:=48) (x:=.sl 3 [lkG ⟨xf,xt,xy⟩] .exact) (ys:=[lkG ⟨xf,xt,xy⟩]) hap (by simp [zbK]) hP.tk (by simp only [List.length_map,List.length_singleton,room]; omega) (by simp only [List.length_map,List.length_singleton,maxLen]; omega)
  have hset1:∀ H ag ls m k,zdh H ag ls m k v1=zbb H ag ls m k v1:=fun H ag ls m k=>zcI (zcH a1).2.1
  let H1:GH:={ H with objs:=H.objs.set (n+1) (.map false sLs (zas es1 (za2 xf) v1)),toks:=t1 }
  -- the second map
  have hins1:∀ {k:Key},k≠(3,zaw xf)→∀ {sz v zs},Ap own k H sz v zs→Ap own1 k H1 sz v zs:=fun {_} hk {sz v zs} h=>(a8 _ hk sz v zs h).objs rfl rfl
  have hap2:=hins1 (k:=(4,zaw xt)) (by simp) (i2.at_ xt hkt)
  generalize hw0:(zaX es2 (za2 xt)).getD .nilsl=w0 at hap2
  have hfl2:((L.take i).filter fun x=>decide (x.t=xt)).length≤900:=Nat.le_trans (List.length_filter_le _ _) (by rw [List.length_take]; omega)
  obtain ⟨v2,t2,b1,b2,b3,b4,b5,b6,own2,b7,b8⟩:=zfA (ty:=73) (bytes:=48) (x:=.sl 3 [lkG ⟨xf,xt,xy⟩] .exact) (ys:=[lkG ⟨xf,xt,xy⟩]) hap2 (by simp [zbK]) (Nat.le_trans hP.tk a6) (by simp only [List.length_map,List.length_singleton,room]; omega) (by simp only [List.length_map,List.length_singleton,maxLen]; omega)
  have hset2:∀ H ag ls m k,zdh H ag ls m k v2=zbb H ag ls m k v2:=fun H ag ls m k=>zcI (zcH b1).2.1
  have q1:=hap.elems.unb
  have q2:=hap.elems.ok
  have q3:=hap2.elems.unb
  have q4:=hap2.elems.ok
  have h16:∀ X,(H.objs.set (n+1) X)[n+6]?=some (.cells 111 [cs.1,cs.2,.map n,.map (n+1),.map (n+2),.map (n+3),.map (n+4),.map (n+5)]):=fun X=>by rw [List.getElem?_set_ne (by omega)]; exact k6
  have h12:∀ X,(H.objs.set (n+1) X)[n+2]?=some (.map false sLs es2):=fun X=>by rw [List.getElem?_set_ne (by omega)]; exact i1
  rw [sv] at k37
  have hkf':=hkf
  have hkt':=hkt
  have hv0':=hv0
  have hw0':=hw0
  simp only [za2] at hkf hkt hv0 hw0
  simp only [H1,lkG,lkC,za2] at a1 b1
  simp [k37,hI,k3,ix,opt,get,lkC,zae,k6,o1,i1,hkf,hkt,hv0,hw0,q1,q2,q3,q4,zaj,a1,a2,a3,hset1,hb1,h16,h12,b1,b2,b3,hset2,hb2,zcJ]
  refine fun _=>⟨own2, ?_⟩
  generalize hHf:({ objs:=(H.objs.set (n+1) (.map false [.str] (zas es1 (.str (mkB xf)) v1))).set (n+2) (.map false [.str] (zas es2 (.str (mkB xt)) v2)),toks:=t2,bo:=H.bo,bt:=H.bt } : GH)=Hf
  have f1:Hf.toks=t2:=by rw [← hHf]
  have f2:Hf.bt=H.bt:=by rw [← hHf]
  have f3:Hf.bo=H.bo:=by rw [← hHf]
  have f4:Hf.objs=(H.objs.set (n+1) (.map false [.str] (zas es1 (.str (mkB xf)) v1))).set (n+2) (.map false [.str] (zas es2 (.str (mkB xt)) v2)):=by rw [← hHf]
  have up1:∀ {k:Key},k≠(4,zaw xt)→∀ {sz v zs},Ap own1 k H1 sz v zs→Ap own2 k Hf sz v zs:=fun {_} hk {sz v zs} h=>(b8 _ hk sz v zs h).objs f1 f2
  refine ⟨⟨zas es1 (za2 xf) v1, ?_, ?_⟩,⟨zas es2 (za2 xt) v2, ?_, ?_⟩,fun j h1 h2=>?_,by rw [f3]; exact hP.bo,by rw [f2]; exact hP.bt,by rw [f1,f2]; exact Nat.le_trans hP.tk (Nat.le_trans a6 b6),by rw [f4]; simpa using hP.len⟩
  ·rw [f4,List.getElem?_set_ne (by omega),List.getElem?_set_self l1]; rfl
  ·refine o2.put (fun a b h=>zj0 h) hkf' ?_ fun b hb v hv=>?_
   ·rw [zfC _ L i _ opt]
    simp only [decide_true,if_true,List.map_append]
    exact up1 (by simp) (a7.objs (H':=H1) rfl rfl)
   ·rw [zfC _ L i _ opt]
    have:¬ xf=b:=fun h=>hb h.symm
    simp only [this,decide_false,Bool.false_eq_true,if_false,List.append_nil]
    exact up1 (by simp) (hins1 (by simp only [ne_eq,Prod.mk.injEq,El.mk.injEq,true_and,and_true]; exact hb) hv)
  ·rw [f4,List.getElem?_set_self (by rw [List.length_set]; omega)]; rfl
  ·refine i2.put (fun a b h=>zj0 h) hkt' ?_ fun b hb v hv=>?_
   ·rw [zfC _ L i _ opt]
    simp only [decide_true,if_true,List.map_append]
    exact b7.objs f1 f2
   ·rw [zfC _ L i _ opt]
    have:¬ xt=b:=fun h=>hb h.symm
    simp only [this,decide_false,Bool.false_eq_true,if_false,List.append_nil]
    exact up1 (by simp only [ne_eq,Prod.mk.injEq,El.mk.injEq,true_and,and_true]; exact hb) (hins1 (by simp) hv)
  ·rw [f4,List.getElem?_set_ne (by omega),List.getElem?_set_ne (by omega)]
   exact hP.keep j h1 h2
 ·intro own l g H' hP hh hf
  rw [List.take_length] at hP
  exact he l g H' own hP hf
theorem zoZ {own:Nat→Option Key} {H1:GH} {n:Nat} {w:Vw} {vn vl:GV} {eL eV eN eT:List (GV × GV)} (V:VAt own H1 n w vn vl eL eV eN eT) (hl:w.links.length≤900) :
 ∃ H2 v H3,ecall T zuY [vl,.func 63 [] []] H1=some (.tup [],H2)∧H2.objs[n+6]?=H1.objs[n+6]?∧zfI H2 (.ptr (n+6) 1)=some (v,H3)∧Elems 3 v ((za3 (ltC zfq) w.links).map lkG) ∧
  H3.objs[n+6]?=some (.cells 111 [vn,v,.map n,.map (n+1),.map (n+2),.map (n+3),.map (n+4),.map (n+5)])∧(∀ i,i<n+6→H3.objs[i]?=H1.objs[i]?)∧H3.bo=H1.bo∧H3.bt=H1.bt∧H3.toks=H1.toks∧H3.objs.length=H1.objs.length:=by
 have hlen:=V.len
 have V6:=V.obj
 rcases V.links with ⟨rfl,h2⟩ | ⟨id,rfl,hne,hid,hr⟩
 ·refine ⟨H1,.nilsl,H1,zl7 zAl (by simp) rfl ⟨rfl,rfl⟩,rfl, ?_, ?_,V6,fun _ _=>rfl,rfl,rfl,rfl,rfl⟩
  ·simp only [zfI,V6]; rfl
  ·rw [h2]; exact .nil
 ·have hbo:=V.bo
  have hsl:(za3 (ltC zfq) w.links).length=w.links.length:=(zaW _).length_eq
  have hidl:=(List.getElem?_eq_some_iff.1 hr).1
  have hs:=zoY hne (by omega) hr (by omega)
  have h6:(H1.objs.set id (.row 73 (zg4 (za3 (ltC zfq) w.links))))[n+6]?=some (.cells 111 [vn,.hsl id 0 w.links.length 3 false,.map n,.map (n+1),.map (n+2),.map (n+3),.map (n+4),.map (n+5)]):=by
   rw [List.getElem?_set_ne (by omega)]; exact V6
  have hfz:zaR { H1 with objs:=H1.objs.set id (.row 73 (zg4 (za3 (ltC zfq) w.links))) } [.hsl id 0 w.links.length 3 false]=some (.sl 3 ((za3 (ltC zfq) w.links).map lkG) .imm,{ H1 with objs:=(H1.objs.set id (.row 73 (zg4 (za3 (ltC zfq) w.links)))).set id .dead }):=by
   simp only [zaR,List.getElem?_set_self hidl]
   have hone:(((zg4 (za3 (ltC zfq) w.links)).drop 0).take (w.links.length * 3)).all GV.one=true:=by
    rw [List.all_eq_true]
    intro c hc
    have:=List.mem_of_mem_drop (List.mem_of_mem_take hc)
    obtain ⟨p,_,hp⟩:=List.mem_flatMap.1 this
    simp only [lkC,List.mem_cons,List.not_mem_nil,or_false] at hp
    rcases hp with rfl | rfl | rfl <;> rfl
   have hrl:=zhe (za3 (ltC zfq) w.links)
   rw [if_pos ⟨by omega,by omega,by omega,hone⟩,List.drop_zero,← hsl,zhB]
  refine ⟨{ H1 with objs:=H1.objs.set id (.row 73 (zg4 (za3 (ltC zfq) w.links))) },.sl 3 ((za3 (ltC zfq) w.links).map lkG) .imm,{ H1 with objs:=((H1.objs.set id (.row 73 (zg4 (za3 (ltC zfq) w.links)))).set id .dead).set (n+6) (.cells 111 [vn,.sl 3 ((za3 (ltC zfq) w.links).map lkG) .imm,.map n,.map (n+1),.map (n+2),.map (n+3),.map (n+4),.map (n+5)]) },hs,List.getElem?_set_ne (by omega), ?_,.sl _ _, ?_,fun i hi=>?_,rfl,rfl,rfl, ?_⟩
  ·simp only [zfI,h6]
   show (zaR _ _).map _=_
   rw [hfz]
   rfl
  ·show (((H1.objs.set id _).set id .dead).set (n+6) _)[n+6]?=_
   rw [List.getElem?_set_self (by simp; omega)]
  ·show (((H1.objs.set id _).set id .dead).set (n+6) _)[i]?=_
   rw [List.getElem?_set_ne (by omega),List.getElem?_set_ne (by omega),List.getElem?_set_ne (by omega)]
  ·simp
theorem zvp {H:GH} {s m:Nat} {S:List Stp} (hS:Sto H s m S) (hle:S.length≤900) (hok:∀ p∈zeJ S,SeeOk S p.1) (hbo:H.bo≤H.objs.length) (hbt:H.bt≤H.toks.length) :
 ∃ H',ecall T2 zmb [.ptr s 0] H=some (.ptr (H.objs.length+6) 0,H') ∧
  VDone H' H.objs.length (zdW (zb5 S) ((zeJ S).map (·.1))) (za3 (ltC zfq) (zdW (zb5 S) ((zeJ S).map (·.1))).links) (fun a=>(za3 (ltC zfq) (zdW (zb5 S) ((zeJ S).map (·.1))).links).filter fun x=>decide (x.f=a)) (fun a=>(za3 (ltC zfq) (zdW (zb5 S) ((zeJ S).map (·.1))).links).filter fun x=>decide (x.t=a)) ∧
  Below H.objs.length H H'∧H'.bt≤H'.toks.length∧H.objs.length+7≤H'.objs.length:=by
 obtain ⟨es,hat,hdec⟩:=hS.at_
 have hsn:s<H.objs.length:=(List.getElem?_eq_some_iff.1 hat.os).1
 have hmn:m<H.objs.length:=(List.getElem?_eq_some_iff.1 hat.om).1
 generalize hn:H.objs.length=n at *
 let H0:GH:={ H with objs:=H.objs++[.map false sLs [],.map false sLs [],.map false sLs [],.map true kLs [],.map true kLs [],.map true kLs [],.cells 111 [.nilsl,.nilsl,.map n,.map (n+1),.map (n+2),.map (n+3),.map (n+4),.map (n+5)]] }
 have get:∀ j,H0.objs[n+j]?=([.map false sLs [],.map false sLs [],.map false sLs [],.map true kLs [],.map true kLs [],.map true kLs [],.cells 111 [.nilsl,.nilsl,.map n,.map (n+1),.map (n+2),.map (n+3),.map (n+4),.map (n+5)]]:List GObj)[j]?:=fun j=>by
  show (H.objs++_)[n+j]?=_
  rw [List.getElem?_append_right (by omega)]
  congr 1; omega
 have low:∀ i,i<n→H0.objs[i]?=H.objs[i]?:=fun i hi=>List.getElem?_append_left (by omega)
 have hV0:VIs (fun _=>none) H0 n .none:=⟨.nilsl,.nilsl,[],[],[],[],get 6,.nil,.inl ⟨rfl,rfl⟩,⟨get 0,.nil fun _=>.nil⟩,⟨get 1,get 2⟩,⟨get 3,.nil fun _=>.nil⟩,⟨get 4,.nil fun _=>.nil⟩,⟨get 5,.nil fun _=>rfl⟩,hbo,hbt,by show n+7≤(H.objs++_).length; rw [List.length_append,hn]; simp⟩
 have hS0:Sto H0 s m S:=by
  refine ⟨⟨es,⟨(low s hsn).trans hat.os,(low m hmn).trans hat.om,hat.bo⟩,hdec⟩,hS.ap⟩
 obtain ⟨va,hall,hva⟩:=zzx hS0 (by omega)
 have hal:=hva.len
 have hau:=zaf hva
 have hao:=hva.ok
 simp only [List.length_map] at hal
 have hsl:=zqG S
 generalize hww:zdW (zb5 S) ((zeJ S).map (·.1))=w
 have hbw:VwB w 900:=by
  have:=VwB.all (zb5 S) ((zeJ S).map (·.1)) .none 0 ⟨by simp [Vw.none],by simp [Vw.none],fun _=>by simp [Vw.none],fun _=>by simp [Vw.none]⟩
  rw [List.length_map,Nat.zero_add,hsl] at this
  rw [← hww]
  exact ⟨Nat.le_trans this.nodes hle,Nat.le_trans this.links hle,fun a=>Nat.le_trans (this.labels a) hle,fun a=>Nat.le_trans (this.names a) hle⟩
 have hlk:∀ x∈w.links,x.f.length≤1125899906842624∧x.t.length≤1125899906842624:=by
  have gen:∀ (G:List El) (w0:Vw),(∀ e∈G,ElBig e)→(∀ x∈w0.links,x.f.length≤1125899906842624∧x.t.length≤1125899906842624)→∀ x∈(G.foldl (zix (zb5 S)) w0).links,x.f.length≤1125899906842624∧x.t.length≤1125899906842624:=by
   intro G
   induction G with
   | nil=>intro w0 _ h; exact h
   | cons e G ih =>
    intro w0 hG h
    refine ih _ (fun e he=>hG e (List.mem_cons_of_mem _ he)) fun x hx=>?_
    unfold zix at hx
    split at hx
    ·exact h x hx
    split at hx
    ·split at hx <;> exact h x hx
    split at hx
    ·split at hx
     ·rcases List.mem_append.1 hx with hx | hx
      ·exact h x hx
      ·rw [List.mem_singleton] at hx; subst hx
       have:=hG e List.mem_cons_self
       exact ⟨this.a,this.b⟩
     ·exact h x hx
    split at hx
    ·split at hx <;> exact h x hx
    ·exact h x hx
  rw [← hww]
  exact gen _ _ (fun e he=>by obtain ⟨p,hp,rfl⟩:=List.mem_map.1 he; exact (hok p hp).big) (fun x hx=>by cases hx)
 have hmk:∀ (a b:GObj),H.objs++[a]++[b]=H.objs++[a,b]:=fun a b=>by simp
 have key:optW (ecall T2 zmb [.ptr s 0] H) fun r=>∃ H',r=(.ptr (n+6) 0,H')∧VDone H' n w (za3 (ltC zfq) w.links) (fun a=>(za3 (ltC zfq) w.links).filter fun x=>decide (x.f=a)) (fun a=>(za3 (ltC zfq) w.links).filter fun x=>decide (x.t=a))∧Below n H H'∧H'.bt≤H'.toks.length∧n+7≤H'.objs.length:=by
  rw [zad (zqF _ _ zCv) rfl (by simp [zrf]),zab]
  simp only [zrf,zzI]
  simp only [H0] at hall
  simp [hn,GH.newObj,za6,zae,hall,hal,hau,hao]
  rw [zay,zar]
  refine zAx (zeJ S) (by omega) hok va hva s m n hsn hmn (fun _=>none) _ _ H0 hS0.rd hV0 _ (by simp [hau]) (by simp) (by simp) (by simp) (by simp) ?_
  intro l1 g1 H1 own1 hV1 hB1 hf1
  rw [hww] at hV1
  obtain ⟨vn,vl,eL,eV,eN,eT,V⟩:=hV1
  have k3:=hf1.get 3 rfl (v:=.ptr (n+6) 0) (by simp) rfl
  obtain ⟨H2,v,H3,c1,c2,c3,c4,c5,c6,c7,c8,c9,c10⟩:=zoZ V hbw.links
  have c1:=up c1
  have V6:=V.obj
  obtain ⟨lo,lu,l1',lc⟩:=V.links.ok
  have ve:=c4.len
  have vu:=zaf c4
  have vo:=c4.ok
  simp only [List.length_map] at ve
  simp [k3,V6,lo,lu,c1,zjw,c3,ve,vu,vo]
  rw [zay,zar]
  have hil:(za3 (ltC zfq) w.links).length=w.links.length:=(zaW _).length_eq
  have hVT:VTwo (fun _=>none) H3 H3 n (fun _=>[]) (fun _=>[]):=by
   refine ⟨⟨[],(c6 _ (by omega)).trans V.outs.1,.nil fun _=>.nil⟩,⟨[],(c6 _ (by omega)).trans V.outs.2,.nil fun _=>.nil⟩,fun _ _ _=>rfl,rfl,rfl, ?_,rfl⟩
   rw [c8,c9]; exact V.bt
  refine zvo (za3 (ltC zfq) w.links) (by rw [hil]; exact hbw.links) (fun x hx=>hlk x ((zaW _).mem_iff.1 hx)) v c4 n _ _ H3 (fun _=>none) hVT (by rw [c7]; exact V.bo) (cs:=(vn,v)) c5 (by rw [c10]; exact V.len) _ (by simp [vu]) (by simp) (by simp) (by simp [k3]) ?_
  intro l4 g4 H4 own4 hT4 hf4
  have k34:=hf4.get 3 rfl (v:=.ptr (n+6) 0) (by simp [k3]) rfl
  simp [k34]
  have kp:∀ i,i<n+6→i≠n+1→i≠n+2→H4.objs[i]?=H1.objs[i]?:=fun i h1 h2 h3=>(hT4.keep i h2 h3).trans (c6 i h1)
  refine ⟨⟨⟨vn,v,(hT4.keep _ (by omega) (by omega)).trans c5,V.nodes.elems,c4⟩,⟨eL,(kp _ (by omega) (by omega) (by omega)).trans V.labels.1,V.labels.2.imp fun a v h=>h.elems⟩, ?_, ?_,⟨eV,(kp _ (by omega) (by omega) (by omega)).trans V.values.1,V.values.2⟩,⟨eN,(kp _ (by omega) (by omega) (by omega)).trans V.names.1,V.names.2.imp fun a v h=>h.elems⟩,⟨eT,(kp _ (by omega) (by omega) (by omega)).trans V.there.1,V.there.2⟩⟩,⟨?_, ?_,fun i hi=>?_⟩,hT4.tk, ?_⟩
  ·obtain ⟨es,h1,h2⟩:=hT4.outs
   exact ⟨es,h1,h2.imp fun a v h=>h.elems⟩
  ·obtain ⟨es,h1,h2⟩:=hT4.ins
   exact ⟨es,h1,h2.imp fun a v h=>h.elems⟩
  ·rw [hT4.bo,c7,hB1.bo]
  ·rw [hT4.bt,c8,hB1.bt]
  ·rw [kp i (by omega) (by omega) (by omega),hB1.keep i hi]; exact low i hi
  ·rw [hT4.len,c10]; exact V.len
 obtain ⟨r,hr,H',rfl,h⟩:=key
 exact ⟨H',hr,h⟩
end Go.Proofs.YtchjbidfmhmmhaaGreatDoor
