/- Own work: the zaM machine and what it shows, part Xq. -/
import Derived.Test.YtchjbidfmhmmhaaGreatDoorXp
import Derived.Test.YtchjbidfmhmmhaaGreatDoorAl
set_option linter.all false
namespace Go.Proofs.YtchjbidfmhmmhaaGreatDoor
open Go.Sh
set_option maxHeartbeats 4000000
set_option maxRecDepth 100000
def znr (leafF:Ex→Vl) (out:List Vl) (e:Ex):List Vl:=out++[atX leafF out e]
def zbF (leafF:Ex→Vl) (row:List Ex):List Vl:=row.foldl (znr leafF) []
theorem zfr (leafF:Ex→Vl):∀ (row:List Ex) (out:List Vl),(row.foldl (znr leafF) out).length=out.length+row.length
 | [],out=>rfl
 | e::row,out=>by
  rw [List.foldl_cons,zfr leafF row,List.length_cons]
  simp only [znr,List.length_append,List.length_singleton]; omega
structure RecAt (H0:GH) (n:Nat) (vr ve vv:GV) (xs:List Vl) (H:GH):Prop where
 obj:∃ out,H.objs[n]?=some (.cells 124 [vr,ve,vv,out])∧App H 3 out (xs.map vlG)
 keep:∀ j,j≠n→H.objs[j]?=H0.objs[j]?
 bo:H.bo=H0.bo
 bt:H.bt=H0.bt
 toks:H0.toks.length≤H.toks.length
theorem zwE (leafF:Ex→Vl) (R:List Ex) (hRl:R.length≤1000) (hmay:∀ (i:Nat) (e:Ex),R[i]?=some e→zgh e i=true) (n:Nat) (vr ve vv v:GV) (hv:Elems 8 v (R.map exG)) (l0:List GV) (g0:Nat) (H0:GH) (hbn:H0.bo≤n) (hbt:H0.bt≤H0.toks.length)
 (hleaf:∀ e∈R,e.k<5→∀ H' out,H'.objs[n]?=some (.cells 124 [vr,ve,vv,out])→(∀ j,j≠n→H'.objs[j]?=H0.objs[j]?)→ecall T znP [.ptr n 0,exG e] H'=some (.agg (vlC (leafF e)),H'))
 (hr0:RecAt H0 n vr ve vv [] H0) (K:GExit × St→Prop)
 (h41:zai l0 41=v) (h42:zai l0 42=.int .i64 R.length) (h43:zai l0 43=.int .i64 0) (h11:zai l0 11=.ptr n 0) (b8:GV) (h8:zai l0 8=b8)
 (he:∀ l g H,RecAt H0 n vr ve vv (zbF leafF R) H→zai l 8=b8→Fr zAI l0 l→K (.exit 0,⟨⟨l,g⟩,H⟩)) :
 optW (erun T (.loop zAI) ⟨⟨l0,g0⟩,H0⟩) K:=by
 refine zaN (T:=T) (n:=R.length) (A:=Unit) (fun _ _=>[(8,b8)]) (fun i _ _ H'=>RecAt H0 n vr ve vv (zbF leafF (R.take i)) H') (c:=44) (b:=0) (I:=43) (N:=42) (d:=59) rfl (by omega) (by decide) ⟨rfl,rfl⟩ (by simp) ?_ ?_ 0 () _ _ H0 (by omega) (by simpa [zbF] using hr0) (by simp [h8]) (.refl _ _ _) h43 h42
 ·intro i a l g H' hi hRec hh hf hI
  have k41:=hf.get 41 rfl h41 (by simp [hv.boxy])
  have k11:=hf.get 11 rfl h11 rfl
  obtain ⟨lt,ix,opt,get,⟨t,sv⟩,_,mem⟩:=zbL (e:=exG) hv hi (by omega)
  generalize R[i]'hi=e at opt get mem
  have hm:=hmay i e opt
  have hst:zbF leafF (R.take (i+1))=znr leafF (zbF leafF (R.take i)) e:=zhi (znr leafF) [] R i e opt
  have hlen:(zbF leafF (R.take i)).length=i:=by
   rw [zbF,zfr,List.length_take,List.length_nil]; omega
  rw [hst]
  generalize zbF leafF (R.take i)=xs at hRec hlen
  obtain ⟨out,ho,ha⟩:=hRec.obj
  have hkeep:=hRec.keep
  have hA:=zB9 leafF n H' vr ve vv out xs ho ha.elems (by omega) e (by rw [hlen]; exact hm) (fun h5 H'' hobj=>hleaf e mem h5 H'' out (by rw [hobj]; exact ho) (fun j hj=>by rw [hobj]; exact hkeep j hj))
  obtain ⟨w',H2,a1,G1⟩:=zbT (ty:=34) (bytes:=32) (ys:=[vlG (atX leafF xs e)]) (x:=.sl 3 [vlG (atX leafF xs e)] .exact) ha (by simp [zbS]) (by rw [hRec.bt]; exact Nat.le_trans hbt hRec.toks) (by simp only [List.length_singleton,List.length_map,zeu]; omega) (by simp only [List.length_singleton,List.length_map,maxLen]; omega)
  have hobj2:H2.objs=H'.objs:=G1.step.objs
  have hbo2:H2.bo≤n:=by rw [G1.step.bo,hRec.bo]; exact hbn
  have ho2:H2.objs[n]?=some (.cells 124 [vr,ve,vv,out]):=by rw [hobj2]; exact ho
  have wu:=zad G1.app.elems
  have wok:=G1.ok
  have w1:=G1.app.elems.one
  have wc:=G1.app.elems.cells
  have ou:=zad ha.elems
  have ook:=ha.elems.ok
  rw [sv] at k41
  have hl8:(exC e).length=8:=rfl
  have ht8:List.take 8 (exC e)=exC e:=rfl
  have hone8:(exC e).all GV.one=true:=rfl
  have hs8:zaa [GV.int .i64 0,.int .i64 0,.int .i64 0,.str ⟨#[]⟩,.str ⟨#[]⟩,.str ⟨#[]⟩,.int .i64 0,.int .i64 0] 0 (exC e)=some (exC e):=rfl
  simp only [zaE,zaL,and_true] at hh
  simp only [exG] at hA
  simp only [vlG] at a1
  simp [k41,k11,hI,hh,ix,opt,get,hl8,ht8,hone8,hs8,ho,ou,ook,hA,zan,zaf,zak,zah,zal,a1,wu,wok,w1,wc,ho2,hbo2,zaa]
  refine fun _=>⟨⟨w', ?_, ?_⟩,fun j hj=>?_,G1.step.bo.trans hRec.bo,G1.step.bt.trans hRec.bt,Nat.le_trans hRec.toks G1.step.len⟩
  ·show (H2.objs.set n _)[n]?=_
   rw [List.getElem?_set_self (List.getElem?_eq_some_iff.1 ho2).1]
  ·have:=G1.app.objs (H2.objs.set n (GObj.cells 124 [vr,ve,vv,w']))
   simpa [znr] using this
  ·show (H2.objs.set n _)[j]?=_
   rw [List.getElem?_set_ne (fun h=>hj h.symm),hobj2]
   exact hkeep j hj
 ·intro a l g H' hRec hh hf
  simp only [zaE,zaL,and_true] at hh
  rw [List.take_length] at hRec
  exact he l g H' hRec hh hf
def zh0 (leafF:Ex→Vl) (row:List Ex) (i:Int) (b:List Bd):Vl × Int :=
 if 0≤i∧i<row.length then
  if zcc row=true then
   if (b.any fun x=>!zbN x.v.k x.v.n x.v.t)=true then (zaV,1)
   else (zdu (zbF leafF (row.take (i.toNat+1))) i,0)
  else (zaV,1)
 else (zaV,1)
theorem zwF (leafF:Ex→Vl) (row:List Ex) (hrl:row.length≤1000) (hok:∀ e∈row,ExOk e) (vr:GV) (hvr:Elems 8 vr (row.map exG)) (i:Int) (hi1 : -9223372036854775808≤i) (hi2:i≤9223372036854775807) (b:List Bd) (hbl:b.length≤9223372036854775807) (hbok:∀ x∈b,BdOk x) (ve:GV) (hve:Elems 4 ve (b.map bdG)) (vv:GV) (hvv:vv.ok=true∧(∀ t,zbl t vv=vv)∧vv.one=true∧vv.cells=[vv]) (H:GH)
 (hleaf:∀ e∈row,e.k<5→(∃ a:Nat,zgh e a=true)→∀ H' out,H'.objs[H.objs.length]?=some (.cells 124 [vr,ve,vv,out])→(∀ j,j<H.objs.length→H'.objs[j]?=H.objs[j]?)→ecall T znP [.ptr H.objs.length 0,exG e] H'=some (.agg (vlC (leafF e)),H')) :
 ecall T zw3 [vr,.int .i64 i,ve,vv] H=some (.tup [.agg (vlC (zh0 leafF row i b).1),.int .i64 (zh0 leafF row i b).2],H):=by
 have r1:=hvr.len
 have r2:=zad hvr
 have r3:=hvr.ok
 have e2:=zad hve
 have e3:=hve.ok
 obtain ⟨v1,v2,v3,v4⟩:=hvv
 simp only [List.length_map] at r1
 have hR:=fun H=>zsx row (by omega) hok vr hvr H
 have hC:=fun H=>zwD b hbl ve hve hbok H
 have hcl:∀ v k,zaJ H.objs.length H.toks.length 100 (GV.tup [GV.agg (vlC v),.int .i64 k])=some (GV.tup [GV.agg (vlC v),.int .i64 k]):=fun _ _=>rfl
 have hcl0:∀ k,zaJ H.objs.length H.toks.length 100 (GV.tup [GV.agg [.int .i64 0,.int .i64 0,.str ⟨#[]⟩],.int .i64 k])=some (GV.tup [GV.agg [.int .i64 0,.int .i64 0,.str ⟨#[]⟩],.int .i64 k]):=fun _=>rfl
 have rc:=hvr.cells
 have r4:=hvr.one
 have ec:=hve.cells
 have e4:=hve.one
 apply optW.eq
 rw [zbc zIq rfl (by simp [zC7,r3,e3,v1]),zab]
 simp only [zC7,zHY]
 unfold zh0
 by_cases i0:0≤i
 ·have n0:¬ i<0:=by omega
  by_cases il:i<row.length
  ·have nl:¬ (row.length:Int)≤i:=by omega
   rw [if_pos ⟨i0,il⟩]
   cases hr:zcc row with
   | false =>
    rw [hr] at hR
    simp [n0,nl,r1,r2,r3,e2,e3,v1,v2,hcl0,hR,zaf,zaa]
    rfl
   | true =>
    rw [hr] at hR
    cases ho:(b.any fun x=>!zbN x.v.k x.v.n x.v.t) with
    | true =>
     rw [ho] at hC
     simp [n0,nl,r1,r2,r3,e2,e3,v1,v2,hcl0,hR,hC,zaf,zaa]
     rfl
    | false =>
     rw [ho] at hC
     obtain ⟨m,rfl⟩:∃ m:Nat,i=m:=⟨i.toNat,by omega⟩
     have hml:m<row.length:=by omega
     have hwm:IntKind.i64.wrap ((m:Int)+1)=(m:Int)+1:=zar (by omega) (by omega)
     have g1:zaK (row.map exG).length false true false [.int .i64 ((m:Int)+1)]=some (0,m+1,none):=by
      rw [show ((m:Int)+1)=((m+1:Nat):Int) by omega]
      simp only [zaK,List.length_map,zfX (show m+1≤row.length by omega),Option.map_some]
     obtain ⟨c1,d1,f1⟩:=hvr.cut g1
     have hxr:((row.map exG).drop 0).take (m+1 - 0)=(row.take (m+1)).map exG:=by
      rw [List.drop_zero,Nat.sub_zero,List.map_take]
     rw [hxr] at f1
     have q1:=f1.len
     have q2:=zad f1
     have q3:=f1.ok
     have hmin:min (m+1) row.length=m+1:=by omega
     simp only [List.length_map,List.length_take,hmin] at q1
     simp [-ze3,n0,nl,r1,r2,r3,rc,r4,e2,e3,ec,e4,v1,v2,v3,v4,hR,hC,zaf,zaa,hwm,d1,q1,q2,q3]
     rw [zav,zap]
     have hmayR:∀ (j:Nat) (e:Ex),row[j]?=some e→zgh e j=true:=fun j e he=>by
      have hj:=(List.getElem?_eq_some_iff.1 he).1
      have:=List.all_eq_true.1 hr j (List.mem_range.2 hj)
      rw [he] at this
      exact this
     have hmay:∀ (j:Nat) (e:Ex),(row.take (m+1))[j]?=some e→zgh e j=true:=fun j e he=>by
      have hj:=(List.getElem?_eq_some_iff.1 he).1
      rw [List.length_take] at hj
      rw [List.getElem?_take_of_lt (by omega)] at he
      exact hmayR j e he
     have hxl:(zbF leafF (row.take (m+1))).length=m+1:=by
      rw [zbF,zfr,List.length_take,List.length_nil]; omega
     refine zwE leafF (row.take (m+1)) (by rw [List.length_take]; omega) hmay H.objs.length vr ve vv c1 f1 _ _ _ (Nat.le_refl _) (Nat.le_refl _) ?_ ⟨⟨.nilsl, ?_,.nil⟩,fun j hj=>rfl,rfl,rfl,Nat.le_refl _⟩ _ (by simp [q2]) (by simp [hmin]) (by simp) (by simp) (.lbox 0 [.int .i64 0,.int .i64 0,.str ⟨#[]⟩]) (by simp) ?_
     ·intro e he h5 H' out ho' hk'
      have hm':=List.mem_of_mem_take he
      obtain ⟨j,hj⟩:=List.mem_iff_getElem?.1 hm'
      refine hleaf e hm' h5 ⟨j,hmayR j e hj⟩ H' out ho' fun k hk=>?_
      rw [hk' k (by omega)]
      show (H.objs++_)[k]?=_
      rw [List.getElem?_append_left hk]
     ·show (H.objs++_)[H.objs.length]?=_
      simp
     ·intro l g H1 hRec k8 hf
      obtain ⟨out,ho1,ha1⟩:=hRec.obj
      have k11:=hf.get 11 rfl (v:=.ptr H.objs.length 0) (by simp) rfl
      have k1:=hf.get 1 rfl (v:=.int .i64 m) (by simp) rfl
      have he1:=ha1.elems
      have hml':m<(zbF leafF (row.take (m+1))).length:=by omega
      obtain ⟨lt,ix,opt,get,⟨t,sv⟩,_,_⟩:=zbL (e:=vlG) he1 hml' (by omega)
      have hsd:zdu (zbF leafF (row.take (m+1))) m=(zbF leafF (row.take (m+1)))[m]:=by simp [zdu,hml']
      generalize (zbF leafF (row.take (m+1)))[m]'hml'=p at opt get hsd
      rw [hsd]
      have hou:=zad he1
      have hook:=he1.ok
      rw [sv] at ho1
      simp [k8,k11,k1,ho1,ix,opt,zak,zah,zal,zay,hcl]
  ·have nl:(row.length:Int)≤i:=by omega
   simp [n0,nl,hcl0,il,r1,r2,r3,e2,e3,v1,v2,zaf,zaa]
   rfl
 ·have n0:i<0:=by omega
  simp [n0,i0,hcl0,r1,r2,r3,e2,e3,v1,v2,zaf,zaa]
  rfl
def okV (v:Vl):Bool:=zbN v.k v.n v.t
theorem zfd:okV zaV=true:=by decide
theorem ok_bool (b:Bool):okV (zcr b)=true:=by cases b <;> decide
theorem zql (n:Int):okV (zqk n)=true:=by
 unfold okV zqk zbN
 simp only
 rw [if_neg (by omega),if_neg (by omega),if_pos trivial]
 simp only [and_true,decide_eq_true_eq]
 omega
theorem zFH (k:Int) (a:Vl):okV (zB6 k a)=true:=by
 unfold zB6
 split
 ·exact ok_bool _
 ·split
  ·exact ok_bool _
  ·split
   ·exact zfd
   ·exact ok_bool _
theorem zqm (a b:Vl) (d:Bool):okV (zfQ a b d)=true:=by
 unfold zfQ
 split
 ·exact ok_bool _
 ·split
  ·exact ok_bool _
  ·exact zfd
theorem zCa (k:Int) (a b:Vl):okV (zjQ k a b)=true:=by
 unfold zjQ
 split
 ·exact zfd
 ·split
  ·exact ok_bool _
  ·split
   ·exact zfd
   ·split
    ·exact ok_bool _
    ·split
     ·exact ok_bool _
     ·split
      ·exact ok_bool _
      ·exact ok_bool _
theorem zCb (k:Int) (a b:Vl):okV (zpc k a b)=true:=by
 unfold zpc
 split
 ·exact zfd
 ·split
  ·exact zql _
  ·split
   ·exact zql _
   ·exact zql _
theorem zHX (leafF:Ex→Vl) (xs:List Vl) (e:Ex) (hl:e.k<5→okV (leafF e)=true):okV (atX leafF xs e)=true:=by
 unfold atX
 split
 ·rename_i h; exact hl h
 ·split
  ·exact zFH _ _
  ·split
   ·exact zqm _ _ _
   ·split
    ·exact zqm _ _ _
    ·split
     ·exact zCa _ _ _
     ·exact zCb _ _ _
theorem zqn (leafF:Ex→Vl):∀ (row:List Ex) (out:List Vl),(∀ e∈row,e.k<5→okV (leafF e)=true)→(∀ v∈out,okV v=true)→∀ v∈row.foldl (znr leafF) out,okV v=true
 | [],out,_,ho=>ho
 | e::row,out,hl,ho=>by
  rw [List.foldl_cons]
  refine zqn leafF row _ (fun x hx=>hl x (List.mem_cons_of_mem _ hx)) fun v hv=>?_
  rcases List.mem_append.1 hv with hv | hv
  ·exact ho v hv
  ·rw [List.mem_singleton] at hv; subst hv
   exact zHX _ _ _ (hl e List.mem_cons_self)
theorem zCc {xs:List Vl} (h:∀ v∈xs,okV v=true) (i:Int):okV (zdu xs i)=true:=by
 unfold zdu
 cases hx:xs[i.toNat]? with
 | none=>exact zfd
 | some v=>exact h v (List.mem_of_getElem? hx)
theorem zwG (leafF:Ex→Vl) (row:List Ex) (i:Int) (b:List Bd) (hb:∀ x∈b,okV x.v=true):zh0 leafF row i b=zh0 leafF row i []:=by
 have h:(b.any fun x=>!zbN x.v.k x.v.n x.v.t)=false:=by
  rw [List.any_eq_false]
  intro x hx
  have:=hb x hx
  unfold okV at this
  rw [this]; simp
 unfold zh0
 rw [h]
 rfl
theorem zwH {row:List Ex} (h:zcc row=true) {e:Ex} (he:e∈row):∃ a:Nat,zgh e a=true:=by
 obtain ⟨j,hj⟩:=List.mem_iff_getElem?.1 he
 have hlt:=(List.getElem?_eq_some_iff.1 hj).1
 have:=List.all_eq_true.1 h j (List.mem_range.2 hlt)
 rw [hj] at this
 exact ⟨j,this⟩
theorem zpd (H:GH):zbD T2 3000 zxw [] H=some (.bool true,H):=by kernel_rfl
theorem zsy (H:GH):ecall T2 zxw [] H=some (.bool true,H):=ecall_iff.2 ⟨3000,zpd H⟩
structure ExIn (e:Ex):Prop where
 t:e.v.t.length≤1125899906842624
 n1 : -9223372036854775808≤e.v.n
 n2:e.v.n≤9223372036854775807
 var:e.var.length≤1125899906842624
 prop:e.prop.length≤1125899906842624
structure BdIn (b:Bd):Prop where
 t:b.v.t.length≤1125899906842624
 n1 : -9223372036854775808≤b.v.n
 n2:b.v.n≤9223372036854775807
theorem zkA (v:Vl) (ht:v.t.length≤9223372036854775807) (H:GH):ecall T zlU [.agg (vlC v)] H=some (.bool (okV v),H):=by
 have h:=znj v.k v.n (mkB v.t) (by simpa using ht) H
 simp at h
 exact h
end Go.Proofs.YtchjbidfmhmmhaaGreatDoor
