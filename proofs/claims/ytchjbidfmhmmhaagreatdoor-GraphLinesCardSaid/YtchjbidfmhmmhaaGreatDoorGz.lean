/- Own work: the zaO machine and what it shows, part Gz. -/
import Derived.Test.YtchjbidfmhmmhaaGreatDoorGx
import Derived.Test.YtchjbidfmhmmhaaGreatDoorEl
set_option linter.all false
namespace Go.Proofs.YtchjbidfmhmmhaaGreatDoor
open Go.Sh
set_option maxHeartbeats 4000000
set_option maxRecDepth 100000
theorem zt6 (x y:Lk) (H:GH):ecall T zw4 [.agg (lkC x),.agg (lkC y)] H=some (.bool (decide (zfg x y<0)),H):=by
 apply optW.eq
 rw [zbd zFy rfl (by simp [zlW]),zab]
 unfold zfg
 by_cases h1:x.f=y.f
 ·have e1:=(za1 _ _).2 h1
  by_cases h2:x.y=y.y
  ·have e2:=(za1 _ _).2 h2
   by_cases h3:x.t=y.t
   ·simp [zlW,ztw,lkC,h1,h2,h3,zdV,orL,zcO]
   ·have e3:zch x.t y.t≠0:=fun h=>h3 ((za1 _ _).1 h)
    simp [zlW,ztw,lkC,h1,h2,zdV,orL,zcO,e3]
  ·have e2:zch x.y y.y≠0:=fun h=>h2 ((za1 _ _).1 h)
   simp [zlW,ztw,lkC,h1,h2,zdV,orL,zcO,e2]
 ·have e1:zch x.f y.f≠0:=fun h=>h1 ((za1 _ _).1 h)
  simp [zlW,ztw,lkC,h1,zdV,orL,e1]
theorem zme (x:Lk) (H:GH):ecall T zsz [.agg (lkC x)] H=some (.agg (elC (zbr x)),H):=by
 apply optW.eq
 rw [zbd zFw rfl (by simp [ztt]),zab]
 simp [ztt,zCp,elC,lkC,zaK,zae,zmd]
structure RowV (R:List Evt) (vr:GV):Prop where
 row:Row R
 el:Elems 27 vr (R.map evG)
theorem RowV.ok {R:List Evt} {vr:GV} (h:RowV R vr):∀ e∈R,EvOk e:=fun e he=>⟨h.row.fit e he,((zgk rfl h.row.causl).2 e he).1⟩
theorem zk1 {R:List Evt} {vr:GV} (h:RowV R vr) (x:El) (H:GH):ecall T zp9 [vr,.agg (elC x)] H=some (.bool (zfD R x),H):=by
 obtain ⟨v,H',hc,hG⟩:=zpj (by have:=h.row.le; omega) h.ok vr h.el x H.over (Nat.le_refl _)
 have e:=hG.app.elems
 have l:=e.len
 simp only [List.length_map] at l
 have hu:=h.el.unb
 have ho:=h.el.ok
 have hlx:(elC x).length=5:=rfl
 have htx:List.take 5 (elC x)=elC x:=rfl
 apply optW.eq
 rw [zbd zFC rfl (by simp [ztA]),zab]
 have hb:decide (0<(zgR R x).length)=zfD R x:=by
  unfold zfD; cases zgR R x <;> simp
 rw [← hb]
 simp [ztA,zCs,hu,ho,hlx,htx,hc,e.unb,e.ok,l]
theorem zgh {R:List Evt} {vr:GV} (h:RowV R vr) (a:List UInt8) (H:GH):ecall T znz [vr,.str (mkB a)] H=some (.bool (zdk R a),H):=by
 have hc:=fun H=>zk1 h (zaD a) H
 have hu:=h.el.unb
 have ho:=h.el.ok
 simp only [elC] at hc
 apply optW.eq
 rw [zbd zFc rfl (by simp [ztf]),zab]
 simp at hc
 simp [ztf,zCa,hu,ho,zaK,zae,hc,zdk]
theorem zhv {R:List Evt} {vr:GV} (h:RowV R vr) (x:Lk) (H:GH):ecall T zst [vr,.agg (lkC x)] H=some (.bool (zeM R x),H):=by
 have hc:=fun H=>zk1 h (zbr x) H
 have hE:=fun H=>zme x H
 have hf:=fun H=>zgh h x.f H
 have ht:=fun H=>zgh h x.t H
 have hu:=h.el.unb
 have ho:=h.el.ok
 simp only [lkC] at hE ⊢
 apply optW.eq
 rw [zbd zFe rfl (by simp [znG]),zab]
 unfold zeM
 cases h1:zfD R (zbr x)
 ·rw [h1] at hc
  simp [znG,zxj,hu,ho,hE,hc]
 ·rw [h1] at hc
  cases h2:zdk R x.f
  ·rw [h2] at hf
   simp [znG,zxj,hu,ho,hE,hc,hf]
  ·rw [h2] at hf
   simp [znG,zxj,hu,ho,hE,hc,hf,ht]
theorem zxy (x:Lk) (out:List Lk) (ho:out.length≤1000) (v:GV) (hv:Elems 3 v (out.map lkG)) (g6:Nat) (l0:List GV) (g0:Nat) (H0:GH) (K:GExit × St→Prop)
 (h3:zad l0 3=v) (h6:zad l0 6=.lbox g6 (lkC x)) (h7:zad l0 7=.int .i64 0)
 (hk:∀ l g,zad l 7=.int .i64 (ixP (zeN x) out)→Fr zjQ l0 l→K (.exit 2,⟨⟨l,g⟩,H0⟩)) :
 optW (erun T (.loop zjQ) ⟨⟨l0,g0⟩,H0⟩) K:=by
 refine zcG (l0:=l0) (fun m l g H=>H=H0∧∃ i:Nat,m=out.length - i∧i≤out.length∧zad l 7=.int .i64 i∧∀ k,k<i→∀ y,out[k]?=some y→zeN x y=true) ?_ out.length l0 g0 H0 ⟨rfl,0,rfl,Nat.zero_le _,h7,fun k hk=>by omega⟩ (.refl _ _ _)
 intro m l g H ⟨hH,i,hm,hi,q7,lo⟩ hf
 subst hH
 have q3:=hf.get 3 rfl h3 (by simp [hv.boxy])
 have q6:=hf.get 6 rfl h6 rfl
 have hl:=hv.len
 have hu:=zac hv
 have hok:=hv.ok
 simp only [List.length_map] at hl
 by_cases hlt:i<out.length
 ·have hlt':(i:Int)<out.length:=by omega
  obtain ⟨lt,ix,opt,get,⟨t,sl⟩,wr_,mem⟩:=zbX (e:=lkG) hv hlt (by omega)
  generalize out[i]'hlt=y at opt get mem
  have hle:=fun H=>zt6 y x H
  have hw:IntKind.i64.wrap ((i:Int)+1)=(i:Int)+1:=zan (by omega) (by omega)
  have hlx:(lkC y).length=3:=rfl
  have htx:List.take 3 (lkC y)=lkC y:=rfl
  have hlx':(lkC x).length=3:=rfl
  have htx':List.take 3 (lkC x)=lkC x:=rfl
  rw [sl] at q3
  have hfd:zeN x y=decide (zfg y x<0):=rfl
  cases hb:decide (zfg y x<0) with
  | true =>
   rw [hb] at hle
   simp [zjQ,q3,q6,q7,hl,hlt',ix,opt,hlx,htx,hlx',htx',hle,hw]
   refine ⟨out.length - (i+1),by omega,i+1,rfl,by omega,by simp,fun k hk z hz=>?_⟩
   rcases Nat.lt_or_ge k i with h | h
   ·exact lo k h z hz
   ·have:k=i:=by omega
    rw [this,opt] at hz
    injection hz with hz
    rw [← hz,hfd,hb]
  | false =>
   rw [hb] at hle
   have hx:=zmq (p:=zeN x) hi lo (fun z hz=>by rw [opt] at hz; injection hz with hz; rw [← hz,hfd,hb])
   simp [zjQ,q3,q6,q7,hl,hlt',ix,opt,hlx,htx,hlx',htx',hle,hw]
   exact fun hf'=>hk _ _ (by simp [q7,hx]) hf'
 ·have hie:i=out.length:=by omega
  have hx:=zmq (p:=zeN x) hi lo (fun z hz=>by rw [hie] at hz; simp at hz)
  simp [zjQ,q3,q7,hl,hu,hok,hlt]
  exact fun hf'=>hk _ _ (by simp [q7,hx]) hf'
def zd0 (R:List Evt) (out:List Lk) (e:El):List Lk:=if decide (e.k=3)&&zeM R (zbQ e) then zio (zeN (zbQ e)) (zbQ e) out else out
theorem zt7 (R:List Evt) (out:List Lk) (e:El):(zd0 R out e).length≤out.length+1:=by
 unfold zd0; split
 ·rw [zlc]; exact Nat.le_refl _
 ·omega
theorem zj6 (R:List Evt):∀ (X:List El) (out:List Lk),X.foldl (zd0 R) out=((X.filter fun e=>decide (e.k=3)&&zeM R (zbQ e)).map zbQ).foldl (fun out x=>zio (zeN x) x out) out
 | [],_=>rfl
 | e::X,out=>by
  rw [List.foldl_cons,zj6 R X,List.filter_cons]
  unfold zd0
  split <;> simp [*]
theorem zqt {R:List Evt} {vr:GV} (h:RowV R vr) (X:List El) (hX:X.length≤500) (vx:GV) (hvx:Elems 5 vx (X.map elG)) (l0:List GV) (g0:Nat) (H0:GH) (hbt:H0.bt≤H0.toks.length) (K:GExit × St→Prop)
 (h9:zad l0 9=vx) (h10:zad l0 10=.int .i64 X.length) (h11:zad l0 11=.int .i64 0) (h3:zad l0 3=.nilsl) (h0:zad l0 0=vr)
 (he:∀ l g H v,zad l 3=v→Elems 3 v ((X.foldl (zd0 R) []).map lkG)→TokStep none H0 H→Fr ztb l0 l→K (.exit 0,⟨⟨l,g⟩,H⟩)) :
 optW (erun T (.loop ztb) ⟨⟨l0,g0⟩,H0⟩) K:=by
 refine zau (T:=T) (n:=X.length) (A:=GV) (fun _ s=>[(3,s)]) (fun i s _ H'=>Elems 3 s (((X.take i).foldl (zd0 R) []).map lkG)∧TokStep none H0 H'∧((X.take i).foldl (zd0 R) []).length≤i) (c:=12) (b:=0) (I:=11) (N:=10) (d:=57) rfl (by omega) (by decide) ⟨rfl,rfl⟩ (by simp) ?_ ?_ 0 .nilsl _ _ H0 (by omega) ⟨by rw [List.take_zero]; exact .nil,.refl _ _,by simp⟩ (by simp [h3]) (.refl _ _ _) h11 h10
 ·intro i s l g H' hi ⟨hE,hT,hol⟩ hh hf hI
  have k9:=hf.get 9 rfl h9 (by simp [hvx.boxy])
  have k0:=hf.get 0 rfl h0 (by simp [h.el.boxy])
  obtain ⟨lt,ix,opt,get,⟨t,sv⟩,wr_,mem⟩:=zbX (e:=elG) hvx hi (by omega)
  generalize X[i]'hi=e at opt get mem
  have hst:(X.take (i+1)).foldl (zd0 R) []=zd0 R ((X.take i).foldl (zd0 R) []) e:=zg7 (zd0 R) [] X i e opt
  have hol':=zt7 R ((X.take i).foldl (zd0 R) []) e
  rw [hst]
  generalize (X.take i).foldl (zd0 R) []=out at hE hol hol'
  have hlk:=fun H=>zhv h (zbQ e) H
  simp only [zah,zaj,and_true] at hh
  rw [sv] at k9
  have vu:=h.el.unb
  have vo:=h.el.ok
  have hu:=zac hE
  have hl:=hE.len
  have hk:=hE.ok
  simp only [List.length_map] at hl
  obtain ⟨ek,ea,eb,ec,ed⟩:=e
  simp only [lkC] at hlk
  by_cases h3':ek=3
  ·subst h3'
   cases hlr:zeM R ⟨ea,eb,ec⟩ with
   | false =>
    rw [hlr] at hlk
    have hadd:zd0 R out ⟨3,ea,eb,ec,ed⟩=out:=by simp [zd0,hlr]
    rw [hadd]
    simp [k9,k0,hI,ix,opt,get,elC,zae,zaK,vu,vo,hlk]
    exact fun _=>by rw [hh]; exact ⟨hE,hT,by omega⟩
   | true =>
    rw [hlr] at hlk
    have hadd:zd0 R out ⟨3,ea,eb,ec,ed⟩=zio (zeN ⟨ea,eb,ec⟩) ⟨ea,eb,ec⟩ out:=by simp [zd0,hlr]
    rw [hadd]
    rw [hadd] at hol'
    simp [k9,k0,hI,ix,opt,get,elC,zae,zaK,vu,vo,hlk]
    rw [zai,zao,zai]
    refine zxy ⟨ea,eb,ec⟩ out (by omega) s hE (g+1) _ _ H' _ (by simp [hh]) (by simp [lkC]) (by simp) ?_
    intro l2 g2 k7 hf2
    have k3:=hf2.get 3 rfl (v:=s) (by simp [hh]) (by simp [hE.boxy])
    have k6:=hf2.get 6 rfl (v:=.lbox (g+1) (lkC ⟨ea,eb,ec⟩)) (by simp [lkC]) rfl
    have hix:=zxE (zeN ⟨ea,eb,ec⟩) out
    have hb:=hT.btle hbt
    unfold zio at hol' ⊢
    generalize ixP (zeN ⟨ea,eb,ec⟩) out=k at k7 hix hol'
    have g1:zay (out.map lkG).length false true false [.int .i64 (k:Int)]=some (0,k,none):=by
     simp only [zay,List.length_map,zcC hix,Option.map_some]
    have g2':zay (out.map lkG).length true false false [.int .i64 (k:Int)]=some (k,out.length,none):=by
     simp only [zay,List.length_map,zcC hix,Option.map_some]
    obtain ⟨c1,d1,e1⟩:=hE.cut g1
    obtain ⟨c2,d2,e2⟩:=hE.cut g2'
    have o1:=e1.ok
    have o2:=e2.ok
    obtain ⟨m,H1,n,H2,r,H3,b1,b2,b3,b4,b5,b6,b7,b8⟩:=zeO (H:=H') (ty:=73) (bytes:=48) (z:=lkG ⟨ea,eb,ec⟩) e1 e2 (by simp [zbB]) hb (by simp; omega) (by omega)
    have hx:((out.map lkG).drop 0).take (k - 0)++lkG ⟨ea,eb,ec⟩::((out.map lkG).drop k).take (out.length - k)=(out.take k++(⟨ea,eb,ec⟩:Lk)::out.drop k).map lkG:=by
     rw [List.drop_zero,Nat.sub_zero,List.map_append,List.map_cons,List.map_take,List.map_drop,List.take_of_length_le (l:=(out.map lkG).drop k) (by simp)]
    rw [hx] at b7
    simp only [lkG,lkC] at k6 b3
    simp [-zdM,k3,k6,k7,hl,hu,hk,d1,d2,o1,o2,zak,zaK,b1,b2,b3,b4,b5,b6]
    exact fun _=>⟨by simpa using b7,hT.trans b8,by simpa using (show _≤i+1 by omega)⟩
  ·have hadd:zd0 R out ⟨ek,ea,eb,ec,ed⟩=out:=by simp [zd0,h3']
   rw [hadd]
   simp [k9,k0,hI,ix,opt,get,elC,zae,zaK,vu,vo,h3']
   exact fun _=>by rw [hh]; exact ⟨hE,hT,by omega⟩
 ·intro s l g H' ⟨hE,hT,_⟩ hh hf
  simp only [zah,zaj,and_true] at hh
  rw [List.take_length] at hE
  exact he l g H' s hh hE hT hf
theorem zqu {R:List Evt} {vr:GV} (h:RowV R vr) (H:GH):∃ v,ecall T zsr [vr] H=some (v,H)∧Elems 3 v ((zbR R).map lkG):=by
 have hle:=h.row.le
 obtain ⟨vx,H1,hx,hE,hT⟩:=zgl (by omega) h.row.fit vr h.el H.over (Nat.le_refl _)
 have l:=hE.len
 simp only [List.length_map] at l
 have hel:=zb0 R
 have key:optW (ecall T zsr [vr] H) fun r=>∃ v,r=(v,H)∧Elems 3 v ((zbR R).map lkG):=by
  rw [zbd zFa rfl (by simp [ztc]),zab]
  simp only [ztc,zB8]
  have vu:=h.el.unb
  have vo:=h.el.ok
  simp [vu,vo,hx,hE.unb,hE.ok,l]
  rw [zao,zai]
  refine zqt h (za0 R) (by omega) vx hE _ _ H1 (hT.btle (Nat.le_refl _)) _ (by simp [hE.unb]) (by simp) (by simp) (by simp) (by simp [vu]) ?_
  intro l4 g4 H4 v k3 hE4 hT4 hf4
  rw [zj6] at hE4
  obtain ⟨v2,d1,d2⟩:=zbG (a:=H.objs.length) (b:=H.toks.length) (n:=99) hE4 (fun x hx=>by obtain ⟨y,_,rfl⟩:=List.mem_map.1 hx; rfl)
  simp [k3,hE4.unb,hE4.ok,d1]
  exact d2
 obtain ⟨r,hr,v,rfl,h2⟩:=key
 exact ⟨v,hr,h2⟩
theorem zt8 {R:List Evt} (h:Row R) {x:Lk} (hx:x∈zbR R):zeM R x=true∧∃ e∈za0 R,e.k=3∧zbQ e=x:=by
 have h1:=(zg4 h (zcj (zbK R))).1
 rw [← h1,(zaZ _).mem_iff,zg3 h] at hx
 obtain ⟨e,he,rfl⟩:=List.mem_map.1 hx
 obtain ⟨h2,h3⟩:=List.mem_filter.1 he
 simp only [Bool.and_eq_true,decide_eq_true_eq] at h3
 exact ⟨h3.2,e,h2,h3.1,rfl⟩
theorem zt9 {R:List Evt} (h:Row R):(zbR R).length≤60:=by
 have h1:=(zg4 h (zcj (zbK R))).1
 rw [← h1,(zaZ _).length_eq,zg3 h,List.length_map]
 have h2:=List.length_filter_le (fun e=>decide (e.k=3)&&zeM R (zbQ e)) (za0 R)
 have h3:=zb0 R
 have h4:=h.le
 omega
theorem zmf {R:List Evt} {vr:GV} (h:RowV R vr) (e:El) (H:GH):ecall T zsA [vr,.agg (elC e)] H=some (.bool (zfz R e),H):=by
 have hN:=fun H=>zgh h e.a H
 have hL:=fun H=>zhv h (zbQ e) H
 have hu:=h.el.unb
 have ho:=h.el.ok
 obtain ⟨ek,ea,eb,ec,ed⟩:=e
 simp only [lkC] at hL hN
 apply optW.eq
 rw [zbd zFz rfl (by simp [zlX]),zab]
 unfold zfz
 by_cases h2:ek=2
 ·simp [zlX,ztx,elC,hu,ho,h2,hN]
 ·by_cases h4:ek=4
  ·simp [zlX,ztx,elC,hu,ho,h4,hN]
  ·by_cases h5:ek=5
   ·simp [zlX,ztx,elC,hu,ho,h5,hL,zaK,zae]
   ·simp [zlX,ztx,elC,hu,ho,h2,h4,h5]
theorem zj7 (p:El→Bool) (L:List El) (i:Nat) (x:El) (h:L[i]?=some x):(L.take (i+1)).filter p=(L.take i).filter p++(if p x then [x] else []):=by
 rw [List.take_add_one,h,List.filter_append]
 cases hp:p x <;> simp [hp]
theorem znX {R:List Evt} {vr:GV} (h:RowV R vr) (key:List UInt8) (X:List El) (hX:X.length≤500) (vx:GV) (hvx:Elems 5 vx (X.map elG)) (l0:List GV) (g0:Nat) (H0:GH) (hbt:H0.bt≤H0.toks.length) (K:GExit × St→Prop)
 (h9:zad l0 9=vx) (h10:zad l0 10=.int .i64 X.length) (h11:zad l0 11=.int .i64 0) (h5:zad l0 5=.nilsl) (h0:zad l0 0=vr) (h1:zad l0 1=.str (mkB key))
 (he:∀ l g H v,zad l 5=v→Grown 1 H0 .nilsl ((X.filter fun e=>decide (e.k=2∧e.a=key)&&(zfD R e&&zfz R e)).map fun e=>zaJ e.d) H v→Fr ztg l0 l→K (.exit 0,⟨⟨l,g⟩,H⟩)) :
 optW (erun T (.loop ztg) ⟨⟨l0,g0⟩,H0⟩) K:=by
 refine zau (T:=T) (n:=X.length) (A:=GV) (fun _ s=>[(5,s)]) (fun i s _ H'=>Grown 1 H0 .nilsl (((X.take i).filter fun e=>decide (e.k=2∧e.a=key)&&(zfD R e&&zfz R e)).map fun e=>zaJ e.d) H' s) (c:=12) (b:=0) (I:=11) (N:=10) (d:=39) rfl (by omega) (by decide) ⟨rfl,rfl⟩ (by simp) ?_ ?_ 0 .nilsl _ _ H0 (by omega) (by simpa using Grown.refl App.nil) (by simp [h5]) (.refl _ _ _) h11 h10
 ·intro i s l g H' hi hG hh hf hI
  have k9:=hf.get 9 rfl h9 (by simp [hvx.boxy])
  have k0:=hf.get 0 rfl h0 (by simp [h.el.boxy])
  have k1:=hf.get 1 rfl h1 rfl
  obtain ⟨lt,ix,opt,get,⟨t,sv⟩,wr_,mem⟩:=zbX (e:=elG) hvx hi (by omega)
  generalize X[i]'hi=e at opt get mem
  have f1:=zj7 (fun e=>decide (e.k=2∧e.a=key)&&(zfD R e&&zfz R e)) X i e opt
  have lA:=List.length_filter_le (fun e=>decide (e.k=2∧e.a=key)&&(zfD R e&&zfz R e)) (X.take i)
  rw [List.length_take] at lA
  rw [f1]
  generalize (X.take i).filter (fun e=>decide (e.k=2∧e.a=key)&&(zfD R e&&zfz R e))=out at hG lA
  have hH:=fun H=>zk1 h e H
  have hS:=fun H=>zmf h e H
  simp only [zah,zaj,and_true] at hh
  rw [sv] at k9
  have vu:=h.el.unb
  have vo:=h.el.ok
  have wok:=hG.ok
  have hu:=zac hG.app.elems
  obtain ⟨ek,ea,eb,ec,ed⟩:=e
  simp only [elC] at hH hS
  by_cases hk:ek=2
  ·subst hk
   by_cases ha:ea=key
   ·subst ha
    cases hr:zfD R ⟨2,ea,eb,ec,ed⟩ with
    | false =>
     rw [hr] at hH
     simp [k9,k0,k1,hI,ix,opt,get,elC,zae,zaK,vu,vo,hH,hr]
     exact fun _=>by rw [hh]; exact hG
    | true =>
     rw [hr] at hH
     cases hs:zfz R ⟨2,ea,eb,ec,ed⟩ with
     | false =>
      rw [hs] at hS
      simp [k9,k0,k1,hI,ix,opt,get,elC,zae,zaK,vu,vo,hH,hS,hr,hs]
      exact fun _=>by rw [hh]; exact hG
     | true =>
      rw [hs] at hS
      obtain ⟨w',H2,a1,G1⟩:=zbj (ty:=9) (bytes:=16) (ys:=[zaJ ed]) (x:=.sl 1 [zaJ ed] .exact) hG.app (by simp [zbB]) (hG.step.btle hbt) (by simp only [List.length_singleton,List.length_map,zdu]; omega) (by simp only [List.length_singleton,List.length_map,maxLen]; omega)
      have wok':=G1.ok
      have G2:=hG.trans G1
      simp only [zaJ] at a1
      simp [k9,k0,k1,hI,ix,opt,get,elC,zae,zaK,vu,vo,hH,hS,hr,hs,hh,wok,wok',hu,zak,a1]
      exact fun _=>by simpa using G2
   ·simp [k9,k0,k1,hI,ix,opt,get,elC,zae,zaK,vu,vo,ha]
    exact fun _=>by rw [hh]; exact hG
  ·simp [k9,k0,k1,hI,ix,opt,get,elC,zae,zaK,vu,vo,hk]
   exact fun _=>by rw [hh]; exact hG
 ·intro s l g H' hG hh hf
  simp only [zah,zaj,and_true] at hh
  rw [List.take_length] at hG
  exact he l g H' s hh hG hf
theorem znY {R:List Evt} {vr:GV} (h:RowV R vr) (key:List UInt8) (H:GH):∃ v,ecall T zss [vr,.str (mkB key)] H=some (v,H)∧Elems 1 v ((zcf R key).map zaJ):=by
 have hle:=h.row.le
 obtain ⟨vx,H1,hx,hE,hT⟩:=zgl (by omega) h.row.fit vr h.el H.over (Nat.le_refl _)
 have l:=hE.len
 simp only [List.length_map] at l
 have hel:=zb0 R
 have goal:optW (ecall T zss [vr,.str (mkB key)] H) fun r=>∃ v,r=(v,H)∧Elems 1 v ((zcf R key).map zaJ):=by
  rw [zbd zFd rfl (by simp [zth]),zab]
  simp only [zth,zCb]
  have vu:=h.el.unb
  have vo:=h.el.ok
  simp [vu,vo,hx,hE.unb,hE.ok,l]
  rw [zao,zai]
  refine znX h key (za0 R) (by omega) vx hE _ _ H1 (hT.btle (Nat.le_refl _)) _ (by simp [hE.unb]) (by simp) (by simp) (by simp) (by simp [vu]) (by simp) ?_
  intro l4 g4 H4 v k5 hG hf4
  have hE4:=hG.app.elems
  obtain ⟨v2,d1,d2⟩:=zbG (a:=H.objs.length) (b:=H.toks.length) (n:=99) hE4 (fun x hx=>by obtain ⟨y,_,rfl⟩:=List.mem_map.1 hx; rfl)
  simp [k5,hE4.unb,hE4.ok,d1]
  unfold zcf
  rw [List.map_map]
  exact d2
 obtain ⟨r,hr,v,rfl,h2⟩:=goal
 exact ⟨v,hr,h2⟩
abbrev zfA (x:Vl):Vl→Bool:=fun y=>decide (zet y x<0)
theorem zz4 (x:Evt) (hx:EvFit x) (out:List Vl) (ho:out.length≤1000) (hsm:∀ y∈out,y.t.length≤1048576) (v:GV) (hv:Elems 3 v (out.map vlG)) (g7:Nat) (l0:List GV) (g0:Nat) (H0:GH) (K:GExit × St→Prop)
 (h5:zad l0 5=v) (h7:zad l0 7=.lbox g7 (evC x)) (h8:zad l0 8=.int .i64 0)
 (hk:∀ l g,zad l 8=.int .i64 (ixP (zfA (zcK x)) out)→Fr zjR l0 l→K (.exit 2,⟨⟨l,g⟩,H0⟩)) :
 optW (erun T (.loop zjR) ⟨⟨l0,g0⟩,H0⟩) K:=by
 refine zcG (l0:=l0) (fun m l g H=>H=H0∧∃ i:Nat,m=out.length - i∧i≤out.length∧zad l 8=.int .i64 i∧∀ k,k<i→∀ y,out[k]?=some y→zfA (zcK x) y=true) ?_ out.length l0 g0 H0 ⟨rfl,0,rfl,Nat.zero_le _,h8,fun k hk=>by omega⟩ (.refl _ _ _)
 intro m l g H ⟨hH,i,hm,hi,q8,lo⟩ hf
 subst hH
 have q5:=hf.get 5 rfl h5 (by simp [hv.boxy])
 have q7:=hf.get 7 rfl h7 rfl
 have hl:=hv.len
 have hu:=zac hv
 have hok:=hv.ok
 have l1:=zc8 hx.past
 have vc:=znj hx.past
 simp only [List.length_map] at hl
 by_cases hlt:i<out.length
 ·have hlt':(i:Int)<out.length:=by omega
  obtain ⟨lt,ix,opt,get,⟨t,sl⟩,wr_,mem⟩:=zbX (e:=vlG) hv hlt (by omega)
  generalize out[i]'hlt=y at opt get mem
  have hle:=fun H=>zoW y (zcK x) (hsm y mem) H
  have hw:IntKind.i64.wrap ((i:Int)+1)=(i:Int)+1:=zan (by omega) (by omega)
  have hlx:(vlC y).length=3:=rfl
  have htx:List.take 3 (vlC y)=vlC y:=rfl
  have hlx':(vlC (zcK x)).length=3:=rfl
  rw [sl] at q5
  by_cases hb:zet y (zcK x)<0
  ·simp [zjR,q5,q7,q8,hl,hlt',ix,opt,hlx,htx,hlx',l1,vc,hle,hw,hb]
   refine ⟨out.length - (i+1),by omega,i+1,rfl,by omega,by simp,fun k hk z hz=>?_⟩
   rcases Nat.lt_or_ge k i with h | h
   ·exact of_decide_eq_true (lo k h z hz)
   ·have:k=i:=by omega
    rw [this,opt] at hz
    injection hz with hz
    rw [← hz]; exact hb
  ·have hix:=zmq (p:=zfA (zcK x)) hi lo (fun z hz=>by rw [opt] at hz; injection hz with hz; rw [← hz]; exact decide_eq_false hb)
   simp [zjR,q5,q7,q8,hl,hlt',ix,opt,hlx,htx,hlx',l1,vc,hle,hw,hb]
   exact fun hf'=>hk _ _ (by simp [q8,hix]) hf'
 ·have hie:i=out.length:=by omega
  have hix:=zmq (p:=zfA (zcK x)) hi lo (fun z hz=>by rw [hie] at hz; simp at hz)
  simp [zjR,q5,q7,q8,hl,hu,hok,hlt]
  exact fun hf'=>hk _ _ (by simp [q8,hix]) hf'
theorem zpg (out:List Vl) (x:Vl):(zgQ out x).length≤out.length+1:=by
 unfold zgQ; split
 ·omega
 ·rw [zlc]; exact Nat.le_refl _
theorem zxz {out:List Vl} {x z:Vl} (h:z∈zgQ out x):z=x∨z∈out:=by
 unfold zgQ at h; split at h
 ·exact .inr h
 ·exact insP_mem.1 h
theorem zua (F:List Evt) (hF:F.length≤500) (hfit:∀ e∈F,EvFit e) (vx:GV) (hvx:Elems 27 vx (F.map evG)) (l0:List GV) (g0:Nat) (H0:GH) (hbt:H0.bt≤H0.toks.length) (K:GExit × St→Prop)
 (h20:zad l0 20=vx) (h21:zad l0 21=.int .i64 F.length) (h22:zad l0 22=.int .i64 0) (h5:zad l0 5=.nilsl)
 (he:∀ l g H v,zad l 5=v→Elems 3 v (((F.map zcK).foldl zgQ []).map vlG)→TokStep none H0 H→Fr ztd l0 l→K (.exit 0,⟨⟨l,g⟩,H⟩)) :
 optW (erun T (.loop ztd) ⟨⟨l0,g0⟩,H0⟩) K:=by
 refine zau (T:=T) (n:=F.length) (A:=GV) (fun _ s=>[(5,s)]) (fun i s _ H'=>Elems 3 s ((((F.take i).map zcK).foldl zgQ []).map vlG)∧TokStep none H0 H'∧(((F.take i).map zcK).foldl zgQ []).length≤i∧∀ y∈((F.take i).map zcK).foldl zgQ [],y.t.length≤1048576) (c:=23) (b:=0) (I:=22) (N:=21) (d:=68) rfl (by omega) (by decide) ⟨rfl,rfl⟩ (by simp) ?_ ?_ 0 .nilsl _ _ H0 (by omega) ⟨by rw [List.take_zero]; exact .nil,.refl _ _,by simp,by simp⟩ (by simp [h5]) (.refl _ _ _) h22 h21
 ·intro i s l g H' hi ⟨hE,hT,hol,hsm⟩ hh hf hI
  have k20:=hf.get 20 rfl h20 (by simp [hvx.boxy])
  obtain ⟨lt,ix,opt,get,⟨t,sv⟩,wr_,mem⟩:=zbX (e:=evG) hvx hi (by omega)
  generalize F[i]'hi=e at opt get mem
  have hfe:=hfit e mem
  have l1:=zc8 hfe.past
  have l4:List.take 27 (evC e)=evC e:=List.take_of_length_le (by rw [l1]; exact Nat.le_refl _)
  have lo:=zht hfe.past
  have sp:=zir hfe.past
  have vc:=znj hfe.past
  have hst:((F.take (i+1)).map zcK).foldl zgQ []=zgQ (((F.take i).map zcK).foldl zgQ []) (zcK e):=by
   rw [List.take_add_one,opt,List.map_append,List.foldl_append]; rfl
  have hol':=zpg (((F.take i).map zcK).foldl zgQ []) (zcK e)
  have hsm':∀ y∈zgQ (((F.take i).map zcK).foldl zgQ []) (zcK e),y.t.length≤1048576:=fun y hy=>by
   rcases zxz hy with rfl | hy
   ·exact hfe.t
   ·exact hsm y hy
  rw [hst]
  generalize ((F.take i).map zcK).foldl zgQ []=out at hE hol hol' hsm hsm'
  simp only [zah,zaj,and_true] at hh
  rw [sv] at k20
  have hu:=zac hE
  have hl:=hE.len
  have hk:=hE.ok
  simp only [List.length_map] at hl
  simp [k20,hI,ix,opt,get,sp,l1,l4,lo]
  rw [zai,zao,zai]
  refine zz4 e hfe out (by omega) hsm s hE g _ _ H' _ (by simp [hh]) (by simp) (by simp) ?_
  intro l2 g2 k8 hf2
  have k5:=hf2.get 5 rfl (v:=s) (by simp [hh]) (by simp [hE.boxy])
  have k7:=hf2.get 7 rfl (v:=.lbox g (evC e)) (by simp) rfl
  have hix:=zxE (zfA (zcK e)) out
  have hb:=hT.btle hbt
  have hlx:(vlC (zcK e)).length=3:=rfl
  have htx:List.take 3 (vlC (zcK e))=vlC (zcK e):=rfl
  have hvo:(vlC (zcK e)).all GV.one=true:=rfl
  unfold zgQ at hol' hsm' ⊢
  by_cases heq:out[ixP (zfA (zcK e)) out]?=some (zcK e)
  ·rw [if_pos heq] at hol' hsm' ⊢
   have hlt:ixP (zfA (zcK e)) out<out.length:=(List.getElem?_eq_some_iff.1 heq).1
   obtain ⟨lt2,ix2,opt2,get2,⟨t2,sv2⟩,_,_⟩:=zbX (e:=vlG) hE hlt (by omega)
   rw [heq] at opt2
   have hg:∀ h,out[ixP (zfA (zcK e)) out]'h=zcK e:=fun _=>(List.getElem?_eq_some_iff.1 heq).2
   have lv:=znk (zcK e) (zcK e)
   have hne:¬ ((ixP (zfA (zcK e)) out:Int)=out.length):=by omega
   rw [sv2] at k5
   generalize ixP (zfA (zcK e)) out=k at *
   simp [k5,k7,k8,hl,hne,ix2,hg,heq,l1,vc,hlx,htx,lv]
   exact fun _=>⟨by rw [← sv2]; exact hE,hT,by omega,hsm'⟩
  ·rw [if_neg heq] at hol' hsm' ⊢
   unfold zio at hol' hsm' ⊢
   have c54:(ixP (zfA (zcK e)) out=out.length)∨(∃ y,ixP (zfA (zcK e)) out<out.length∧out[ixP (zfA (zcK e)) out]?=some y∧y≠zcK e):=by
    by_cases h:ixP (zfA (zcK e)) out=out.length
    ·exact .inl h
    ·have hlt:ixP (zfA (zcK e)) out<out.length:=by omega
     refine .inr ⟨_,hlt,List.getElem?_eq_getElem hlt,fun h=>heq ?_⟩
     rw [List.getElem?_eq_getElem hlt,h]
   generalize ixP (zfA (zcK e)) out=k at *
   have g1:zay (out.map vlG).length false true false [.int .i64 (k:Int)]=some (0,k,none):=by
    simp only [zay,List.length_map,zcC hix,Option.map_some]
   have g2':zay (out.map vlG).length true false false [.int .i64 (k:Int)]=some (k,out.length,none):=by
    simp only [zay,List.length_map,zcC hix,Option.map_some]
   obtain ⟨c1,d1,e1⟩:=hE.cut g1
   obtain ⟨c2,d2,e2⟩:=hE.cut g2'
   have o1:=e1.ok
   have o2:=e2.ok
   obtain ⟨m,H1,n,H2,r,H3,b1,b2,b3,b4,b5,b6,b7,b8⟩:=zeO (H:=H') (ty:=34) (bytes:=32) (z:=vlG (zcK e)) e1 e2 (by simp [zbB]) hb (by simp; omega) (by omega)
   have hx:((out.map vlG).drop 0).take (k - 0)++vlG (zcK e)::((out.map vlG).drop k).take (out.length - k)=(out.take k++(zcK e)::out.drop k).map vlG:=by
    rw [List.drop_zero,Nat.sub_zero,List.map_append,List.map_cons,List.map_take,List.map_drop,List.take_of_length_le (l:=(out.map vlG).drop k) (by simp)]
   rw [hx] at b7
   simp only [vlG] at b3
   rcases c54 with hke | ⟨y,hlt,hy,hne⟩
   ·subst hke
    simp [-zdM,k5,k7,k8,hl,hu,hk,d1,d2,o1,o2,zak,zaK,b1,b2,b3,b4,b5,b6,l1,vc,hlx,htx,hvo]
    exact fun _=>⟨by simpa using b7,hT.trans b8,by have h9:=hol'; simp at h9 ⊢; omega,by simpa using hsm'⟩
   ·obtain ⟨lt2,ix2,opt2,get2,⟨t2,sv2⟩,_,_⟩:=zbX (e:=vlG) hE hlt (by omega)
    have lv:=znk y (zcK e)
    have hke':¬ ((k:Int)=out.length):=by omega
    have hly:(vlC y).length=3:=rfl
    have hty:List.take 3 (vlC y)=vlC y:=rfl
    rw [sv2] at k5 d1 d2
    simp [-zdM,k5,k7,k8,hl,hu,hk,hke',ix2,hy,hly,hty,lv,hne,d1,d2,o1,o2,zak,zaK,b1,b2,b3,b4,b5,b6,l1,vc,hlx,htx,hvo]
    exact fun _=>⟨by simpa using b7,hT.trans b8,by have h9:=hol'; simp at h9 ⊢; omega,by simpa using hsm'⟩
 ·intro s l g H' ⟨hE,hT,_⟩ hh hf
  simp only [zah,zaj,and_true] at hh
  rw [List.take_length] at hE
  exact he l g H' s hh hE hT hf
theorem zil {R:List Evt} {vr:GV} (h:RowV R vr) (e:El) (H:GH):∃ v,ecall T zp6 [vr,.agg (elC e)] H=some (v,H)∧Elems 3 v ((za4 R e).map vlG):=by
 have hle:=h.row.le
 obtain ⟨vx,H1,hx,hG⟩:=zpj (by omega) h.ok vr h.el e H.over (Nat.le_refl _)
 have hE:=hG.app.elems
 have l:=hE.len
 simp only [List.length_map] at l
 have hS:=fun H=>zmf h e H
 have hlx:(elC e).length=5:=rfl
 have htx:List.take 5 (elC e)=elC e:=rfl
 have hx0:∀ h,(elC e)[0]'h=.int .i64 e.k:=fun _=>rfl
 have hlv:(zgR R e).length≤500:=Nat.le_trans (List.length_filter_le _ _) (by omega)
 have goal:optW (ecall T zp6 [vr,.agg (elC e)] H) fun r=>∃ v,r=(v,H)∧Elems 3 v ((za4 R e).map vlG):=by
  rw [zbd zFb rfl (by simp [zte]),zab]
  simp only [zte,zB9]
  have vu:=h.el.unb
  have vo:=h.el.ok
  unfold za4
  by_cases hk:e.k<4
  ·simp [vu,vo,hlx,htx,hx0,hk]
   exact .nil
  ·cases hs:zfz R e with
   | false =>
    rw [hs] at hS
    simp [vu,vo,hlx,htx,hx0,hk,hS]
    exact .nil
   | true =>
    rw [hs] at hS
    simp [vu,vo,hlx,htx,hx0,hk,hS,hx,hE.unb,hE.ok,l]
    rw [zao,zai]
    refine zua (zgR R e) hlv (fun y hy=>h.row.fit y (List.mem_filter.1 hy).1) vx hE _ _ H1 (hG.step.btle (Nat.le_refl _)) _ (by simp [hE.unb]) (by simp) (by simp) (by simp) ?_
    intro l4 g4 H4 v k5 hE4 hT4 hf4
    obtain ⟨v2,d1,d2⟩:=zbG (a:=H.objs.length) (b:=H.toks.length) (n:=99) hE4 (fun x hx=>by obtain ⟨y,_,rfl⟩:=List.mem_map.1 hx; rfl)
    simp [k5,hE4.unb,hE4.ok,d1]
    simpa using d2
 obtain ⟨r,hr,v,rfl,h2⟩:=goal
 exact ⟨v,hr,h2⟩
abbrev znZ (R:List Evt) (o:El):El→Bool:=fun e=>ofR o&&(zih o e&&decide (0<(za4 R e).length))
theorem zqv {R:List Evt} {vr:GV} (h:RowV R vr) (o:El) (g3:Nat) (X:List El) (hX:X.length≤500) (vx:GV) (hvx:Elems 5 vx (X.map elG)) (l0:List GV) (g0:Nat) (H0:GH) (hbt:H0.bt≤H0.toks.length) (K:GExit × St→Prop)
 (h10:zad l0 10=vx) (h11:zad l0 11=.int .i64 X.length) (h12:zad l0 12=.int .i64 0) (h5:zad l0 5=.nilsl) (h0:zad l0 0=vr) (h3:zad l0 3=.lbox g3 (elC o))
 (he:∀ l g H v,zad l 5=v→Grown 1 H0 .nilsl ((X.filter (znZ R o)).map fun e=>zaJ e.d) H v→Fr zti l0 l→K (.exit 0,⟨⟨l,g⟩,H⟩)) :
 optW (erun T (.loop zti) ⟨⟨l0,g0⟩,H0⟩) K:=by
 refine zau (T:=T) (n:=X.length) (A:=GV) (fun _ s=>[(3,.lbox g3 (elC o)),(5,s)]) (fun i s _ H'=>Grown 1 H0 .nilsl (((X.take i).filter (znZ R o)).map fun e=>zaJ e.d) H' s) (c:=13) (b:=0) (I:=12) (N:=11) (d:=103) rfl (by omega) (by decide) ⟨rfl,rfl⟩ (by simp) ?_ ?_ 0 .nilsl _ _ H0 (by omega) (by simpa using Grown.refl App.nil) (by simp [h3,h5]) (.refl _ _ _) h12 h11
 ·intro i s l g H' hi hG hh hf hI
  have k10:=hf.get 10 rfl h10 (by simp [hvx.boxy])
  have k0:=hf.get 0 rfl h0 (by simp [h.el.boxy])
  obtain ⟨lt,ix,opt,get,⟨t,sv⟩,wr_,mem⟩:=zbX (e:=elG) hvx hi (by omega)
  generalize X[i]'hi=e at opt get mem
  have f1:=zj7 (znZ R o) X i e opt
  have lA:=List.length_filter_le (znZ R o) (X.take i)
  rw [List.length_take] at lA
  rw [f1]
  generalize (X.take i).filter (znZ R o)=out at hG lA
  obtain ⟨v,hv,hvE⟩:=zil h e H'
  have hvu:=zac hvE
  have hvo:=hvE.ok
  have hvl:=hvE.len
  simp only [List.length_map] at hvl
  simp only [zah,zaj,and_true] at hh
  obtain ⟨k3,hh⟩:=hh
  rw [sv] at k10
  have vu:=h.el.unb
  have vo:=h.el.ok
  have wok:=hG.ok
  have hu:=zac hG.app.elems
  have hlx:(elC e).length=5:=rfl
  have htx:List.take 5 (elC e)=elC e:=rfl
  have hone:(elC e).all GV.one=true:=rfl
  have hsp:zae [GV.int .i64 0,.str ⟨#[]⟩,.str ⟨#[]⟩,.str ⟨#[]⟩,.str ⟨#[]⟩] 0 (elC e)=some (elC e):=rfl
  have x0:∀ h,(elC e)[0]'h=.int .i64 e.k:=fun _=>rfl
  have x1:∀ h,(elC e)[1]'h=.str (mkB e.a):=fun _=>rfl
  have x2:∀ h,(elC e)[2]'h=.str (mkB e.b):=fun _=>rfl
  have x3:∀ h,(elC e)[3]'h=.str (mkB e.c):=fun _=>rfl
  have x4:∀ h,(elC e)[4]'h=.str (mkB e.d):=fun _=>rfl
  have o0:∀ h,(elC o)[0]'h=.int .i64 o.k:=fun _=>rfl
  have o1:∀ h,(elC o)[1]'h=.str (mkB o.a):=fun _=>rfl
  have o2:∀ h,(elC o)[2]'h=.str (mkB o.b):=fun _=>rfl
  have o3:∀ h,(elC o)[3]'h=.str (mkB o.c):=fun _=>rfl
  have o4:∀ h,(elC o)[4]'h=.str (mkB o.d):=fun _=>rfl
  have hlo:(elC o).length=5:=rfl
  obtain ⟨w',H2,a1,G1⟩:=zbj (ty:=9) (bytes:=16) (ys:=[zaJ e.d]) (x:=.sl 1 [zaJ e.d] .exact) hG.app (by simp [zbB]) (hG.step.btle hbt) (by simp only [List.length_singleton,List.length_map,zdu]; omega) (by simp only [List.length_singleton,List.length_map,maxLen]; omega)
  have wok':=G1.ok
  have G2:=hG.trans G1
  simp only [zaJ] at a1
  generalize hQ:znZ R o e=qq
  simp only [znZ] at hQ
  by_cases q1:o.k=1
  ·by_cases qd:o.d=[]
   ·by_cases qb:o.b=[]
    ·by_cases qc:o.c=[]
     ·by_cases p1:e.k=4
      ·by_cases p2:e.a=o.a
       ·skip
        have hO:(ofR o&&zih o e)=true:=by simp [ofR,zih,q1,qd,qb,qc,p1,p2]
        simp only [Bool.and_eq_true] at hO
        rw [hO.1,hO.2,Bool.true_and,Bool.true_and] at hQ
        cases qq with
        | false =>
         have hz':(za4 R e).length=0:=by have:=of_decide_eq_false hQ; omega
         simp [k10,k3,k0,hI,ix,opt,get,hsp,hlx,htx,hone,vu,vo,x0,x1,x2,x3,x4,o0,o1,o2,o3,o4,hlo,q1,qd,qb,qc,p1,p2,hv,hvu,hvo,hvl,hz']
         exact fun _=>by rw [hh]; exact hG
        | true =>
         have hz':0<(za4 R e).length:=of_decide_eq_true hQ
         simp [k10,k3,k0,hI,ix,opt,get,hsp,hlx,htx,hone,vu,vo,x0,x1,x2,x3,x4,o0,o1,o2,o3,o4,hlo,q1,qd,qb,qc,p1,p2,hv,hvu,hvo,hvl,hz',hh,wok,wok',hu,zak,a1]
         exact fun _=>by simpa using G2
       ·skip
        obtain rfl:qq=false:=by rw [← hQ]; simp [ofR,zih,q1,qd,qb,qc,p1,p2]
        simp [k10,k3,k0,hI,ix,opt,get,hsp,hlx,htx,hone,vu,vo,x0,x1,x2,x3,x4,o0,o1,o2,o3,o4,hlo,q1,qd,qb,qc,p1,p2]
        exact fun _=>by rw [hh]; exact hG
      ·skip
       obtain rfl:qq=false:=by rw [← hQ]; simp [ofR,zih,q1,qd,qb,qc,p1]
       simp [k10,k3,k0,hI,ix,opt,get,hsp,hlx,htx,hone,vu,vo,x0,x1,x2,x3,x4,o0,o1,o2,o3,o4,hlo,q1,qd,qb,qc,p1]
       exact fun _=>by rw [hh]; exact hG
     ·skip
      obtain rfl:qq=false:=by rw [← hQ]; simp [ofR,zih,q1,qd,qb,qc]
      simp [k10,k3,k0,hI,ix,opt,get,hsp,hlx,htx,hone,vu,vo,x0,x1,x2,x3,x4,o0,o1,o2,o3,o4,hlo,q1,qd,qb,qc]
      exact fun _=>by rw [hh]; exact hG
    ·skip
     obtain rfl:qq=false:=by rw [← hQ]; simp [ofR,zih,q1,qd,qb]
     simp [k10,k3,k0,hI,ix,opt,get,hsp,hlx,htx,hone,vu,vo,x0,x1,x2,x3,x4,o0,o1,o2,o3,o4,hlo,q1,qd,qb]
     exact fun _=>by rw [hh]; exact hG
   ·skip
    obtain rfl:qq=false:=by rw [← hQ]; simp [ofR,zih,q1,qd]
    simp [k10,k3,k0,hI,ix,opt,get,hsp,hlx,htx,hone,vu,vo,x0,x1,x2,x3,x4,o0,o1,o2,o3,o4,hlo,q1,qd]
    exact fun _=>by rw [hh]; exact hG
  ·by_cases q3:o.k=3
   ·by_cases qd:o.d=[]
    ·by_cases p1:e.k=5
     ·by_cases p2:e.a=o.a
      ·by_cases p3:e.b=o.b
       ·by_cases p4:e.c=o.c
        ·skip
         have hO:(ofR o&&zih o e)=true:=by simp [ofR,zih,q3,qd,p1,p2,p3,p4]
         simp only [Bool.and_eq_true] at hO
         rw [hO.1,hO.2,Bool.true_and,Bool.true_and] at hQ
         cases qq with
         | false =>
          have hz':(za4 R e).length=0:=by have:=of_decide_eq_false hQ; omega
          simp [k10,k3,k0,hI,ix,opt,get,hsp,hlx,htx,hone,vu,vo,x0,x1,x2,x3,x4,o0,o1,o2,o3,o4,hlo,q3,qd,p1,p2,p3,p4,hv,hvu,hvo,hvl,hz']
          exact fun _=>by rw [hh]; exact hG
         | true =>
          have hz':0<(za4 R e).length:=of_decide_eq_true hQ
          simp [k10,k3,k0,hI,ix,opt,get,hsp,hlx,htx,hone,vu,vo,x0,x1,x2,x3,x4,o0,o1,o2,o3,o4,hlo,q3,qd,p1,p2,p3,p4,hv,hvu,hvo,hvl,hz',hh,wok,wok',hu,zak,a1]
          exact fun _=>by simpa using G2
        ·skip
         obtain rfl:qq=false:=by rw [← hQ]; simp [ofR,zih,q3,qd,p1,p2,p3,p4]
         simp [k10,k3,k0,hI,ix,opt,get,hsp,hlx,htx,hone,vu,vo,x0,x1,x2,x3,x4,o0,o1,o2,o3,o4,hlo,q3,qd,p1,p2,p3,p4]
         exact fun _=>by rw [hh]; exact hG
       ·skip
        obtain rfl:qq=false:=by rw [← hQ]; simp [ofR,zih,q3,qd,p1,p2,p3]
        simp [k10,k3,k0,hI,ix,opt,get,hsp,hlx,htx,hone,vu,vo,x0,x1,x2,x3,x4,o0,o1,o2,o3,o4,hlo,q3,qd,p1,p2,p3]
        exact fun _=>by rw [hh]; exact hG
      ·skip
       obtain rfl:qq=false:=by rw [← hQ]; simp [ofR,zih,q3,qd,p1,p2]
       simp [k10,k3,k0,hI,ix,opt,get,hsp,hlx,htx,hone,vu,vo,x0,x1,x2,x3,x4,o0,o1,o2,o3,o4,hlo,q3,qd,p1,p2]
       exact fun _=>by rw [hh]; exact hG
     ·skip
      obtain rfl:qq=false:=by rw [← hQ]; simp [ofR,zih,q3,qd,p1]
      simp [k10,k3,k0,hI,ix,opt,get,hsp,hlx,htx,hone,vu,vo,x0,x1,x2,x3,x4,o0,o1,o2,o3,o4,hlo,q3,qd,p1]
      exact fun _=>by rw [hh]; exact hG
    ·skip
     obtain rfl:qq=false:=by rw [← hQ]; simp [ofR,zih,q3,qd]
     simp [k10,k3,k0,hI,ix,opt,get,hsp,hlx,htx,hone,vu,vo,x0,x1,x2,x3,x4,o0,o1,o2,o3,o4,hlo,q3,qd]
     exact fun _=>by rw [hh]; exact hG
   ·skip
    obtain rfl:qq=false:=by rw [← hQ]; simp [ofR,zih,q1,q3]
    simp [k10,k3,k0,hI,ix,opt,get,hsp,hlx,htx,hone,vu,vo,x0,x1,x2,x3,x4,o0,o1,o2,o3,o4,hlo,q1,q3]
    exact fun _=>by rw [hh]; exact hG
 ·intro s l g H' hG hh hf
  simp only [zah,zaj,and_true] at hh
  rw [List.take_length] at hG
  exact he l g H' s hh.2 hG hf
theorem zj8 {R:List Evt} {vr:GV} (h:RowV R vr) (o:El) (H:GH):∃ v,ecall T zp7 [vr,.agg (elC o)] H=some (v,H)∧Elems 1 v ((zbS R o).map zaJ):=by
 have hle:=h.row.le
 obtain ⟨vx,H1,hx,hE,hT⟩:=zgl (by omega) h.row.fit vr h.el H.over (Nat.le_refl _)
 have l:=hE.len
 simp only [List.length_map] at l
 have hel:=zb0 R
 have hlo:(elC o).length=5:=rfl
 have hto:List.take 5 (elC o)=elC o:=rfl
 have goal:optW (ecall T zp7 [vr,.agg (elC o)] H) fun r=>∃ v,r=(v,H)∧Elems 1 v ((zbS R o).map zaJ):=by
  rw [zbd zFf rfl (by simp [ztj]),zab]
  simp only [ztj,zCd]
  have vu:=h.el.unb
  have vo:=h.el.ok
  simp [vu,vo,hx,hE.unb,hE.ok,l,hlo,hto]
  rw [zao,zai]
  refine zqv h o 0 (za0 R) (by omega) vx hE _ _ H1 (hT.btle (Nat.le_refl _)) _ (by simp [hE.unb]) (by simp) (by simp) (by simp) (by simp [vu]) (by simp) ?_
  intro l4 g4 H4 v k5 hG hf4
  have hE4:=hG.app.elems
  obtain ⟨v2,d1,d2⟩:=zbG (a:=H.objs.length) (b:=H.toks.length) (n:=99) hE4 (fun x hx=>by obtain ⟨y,_,rfl⟩:=List.mem_map.1 hx; rfl)
  simp [k5,hE4.unb,hE4.ok,d1]
  unfold zbS
  rw [List.map_map]
  exact d2
 obtain ⟨r,hr,v,rfl,h2⟩:=goal
 exact ⟨v,hr,h2⟩
theorem zub (L:List (List UInt8)) (hL:L.length≤100000) (va vb:GV) (hva:Elems 1 va (L.map zaJ)) (hvb:Elems 1 vb (L.map zaJ)) (l0:List GV) (g0:Nat) (H0:GH) (K:GExit × St→Prop)
 (h0:zad l0 0=va) (h1:zad l0 1=vb) (h12:zad l0 12=.int .i64 L.length) (h13:zad l0 13=.int .i64 0)
 (he:∀ l g,K (.exit 0,⟨⟨l,g⟩,H0⟩)) :
 optW (erun T (.loop zzc) ⟨⟨l0,g0⟩,H0⟩) K:=by
 refine zau (T:=T) (n:=L.length) (A:=Unit) (fun i _=>[]) (fun i _ _ H'=>H'=H0) (c:=14) (b:=0) (I:=13) (N:=12) (d:=25) rfl (by omega) (by decide) ⟨rfl,rfl⟩ (by simp) ?_ ?_ 0 () _ _ H0 (by omega) rfl (by simp) (.refl _ _ _) h13 h12
 ·intro i u l g H' hi hH hh hf hI
  subst hH
  have k0:=hf.get 0 rfl h0 (by simp [hva.boxy])
  have k1:=hf.get 1 rfl h1 (by simp [hvb.boxy])
  obtain ⟨lt,ix,opt,get,⟨t,sv⟩,_,_⟩:=zbX (e:=zaJ) hva hi (by omega)
  obtain ⟨_,_,_,_,⟨t2,sv2⟩,_,_⟩:=zbX (e:=zaJ) hvb hi (by omega)
  generalize L[i]'hi=e at opt get
  rw [sv] at k0
  rw [sv2] at k1
  have hc0:(zaJ e).cells=[.str (mkB e)]:=rfl
  simp [k0,k1,hI,ix,opt,get,hc0]
 ·intro u l g H' hH hh hf
  subst hH
  exact he l g
theorem zuc (L:List (List UInt8)) (hL:L.length≤100000) (va vb:GV) (hva:Elems 1 va (L.map zaJ)) (hvb:Elems 1 vb (L.map zaJ)) (H:GH):ecall T zso [va,vb] H=some (.bool true,H):=by
 have a1:=hva.len
 have a2:=zac hva
 have a3:=hva.ok
 have b1:=hvb.len
 have b2:=zac hvb
 have b3:=hvb.ok
 simp only [List.length_map] at a1 b1
 apply optW.eq
 rw [zbd zE4 rfl (by simp [zsW]),zab]
 simp only [zsW,zB1]
 simp [a1,a2,a3,b1,b2,b3]
 rw [zao,zai]
 refine zub L hL va vb hva hvb _ _ _ _ (by simp [a2]) (by simp [b2]) (by simp) (by simp) ?_
 intro l g
 simp
theorem zmg:∀ (l out:List Vl),(l.foldl zgQ out).length≤out.length+l.length
 | [],out=>by simp
 | x::l,out=>by
  rw [List.foldl_cons,List.length_cons]
  have h1:=zmg l (zgQ out x)
  have h2:=zpg out x
  omega
theorem zqw {R:List Evt} (h:Row R) (e:El):(za4 R e).length≤60:=by
 unfold za4
 split
 ·simp
 ·have h1:=zmg ((zgR R e).map zcK) []
  have h2:(zgR R e).length≤R.length:=List.length_filter_le _ _
  have h3:=h.le
  simp only [List.length_map,List.length_nil] at h1
  omega
theorem zqx {R:List Evt} (h:Row R) (key:List UInt8):(zcf R key).length≤60:=by
 unfold zcf
 rw [List.length_map]
 have h2:=List.length_filter_le (fun e:El=>decide (e.k=2∧e.a=key)&&(zfD R e&&zfz R e)) (za0 R)
 have h3:=zb0 R
 have h4:=h.le
 omega
theorem zud {R:List Evt} (h:Row R) (o:El):(zbS R o).length≤60:=by
 unfold zbS
 rw [List.length_map]
 have h2:=List.length_filter_le (fun e:El=>ofR o&&(zih o e&&decide (0<(za4 R e).length))) (za0 R)
 have h3:=zb0 R
 have h4:=h.le
 omega
end Go.Proofs.YtchjbidfmhmmhaaGreatDoor
