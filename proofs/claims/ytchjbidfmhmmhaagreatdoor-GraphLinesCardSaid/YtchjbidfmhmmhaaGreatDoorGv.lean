/- Own work: the zaO machine and what it shows, part Gv. -/
import Derived.Test.YtchjbidfmhmmhaaGreatDoorShF
import Derived.Test.YtchjbidfmhmmhaaGreatDoorGr
set_option linter.all false
namespace Go.Sh
def Ap {κ:Type} (own:Nat→Option κ) (k:κ) (H:GH) (sz:Nat) (v:GV) (xs:List GV):Prop:=App H sz v xs∧∀ t,zeX v=some t→own t=some k
theorem Ap.elems {κ:Type} {own:Nat→Option κ} {k:κ} {H:GH} {sz:Nat} {v:GV} {xs:List GV} (h:Ap own k H sz v xs):Elems sz v xs:=h.1.elems
theorem Ap.nil {κ:Type} {own:Nat→Option κ} {k:κ} {H:GH} {sz:Nat} : Ap own k H sz .nilsl []:=⟨.nil,fun _ h=>by cases h⟩
theorem Ap.objs {κ:Type} {own:Nat→Option κ} {k:κ} {H H':GH} {sz:Nat} {v:GV} {xs:List GV} (h:Ap own k H sz v xs) (ht:H'.toks=H.toks) (hb:H'.bt=H.bt):Ap own k H' sz v xs:=by
 obtain ⟨h1,h2⟩:=h
 refine ⟨?_,h2⟩
 cases h1 with
 | nil=>exact .nil
 | exact=>exact .exact _
 | tok _ h hb'=>exact .tok _ (ht ▸ h) (hb ▸ hb')
theorem ztX {κ:Type} {own:Nat→Option κ} {k:κ} {H:GH} {ty sz bytes:Nat} {s x:GV} {xs ys:List GV} (ha:Ap own k H sz s xs) (hn:zbB sz x=some ys) (hbt:H.bt≤H.toks.length) (h1:(xs.length+ys.length) * bytes≤zdu) (h2:xs.length+ys.length≤maxLen) :
 ∃ s' H',zaV H ty sz bytes s x=some (s',H')∧s'.ok=true∧(H'.objs=H.objs∧H'.bo=H.bo∧H'.bt=H.bt∧H.toks.length≤H'.toks.length) ∧
  ∃ own',Ap own' k H' sz s' (xs++ys)∧∀ k',k'≠k→∀ sz v zs,Ap own k' H sz v zs→Ap own' k' H' sz v zs:=by
 obtain ⟨a1,a2⟩:=ha
 obtain ⟨s',H',b1,b2,b3,b4⟩:=zgK (ty:=ty) (bytes:=bytes) a1 hn hbt h1 h2
 refine ⟨s',H',b1,b2.ok,⟨b3.objs,b3.bo,b3.bt,b3.len⟩,fun t=>if H.toks.length≤t then some k else own t,⟨b2,fun t ht=>?_⟩,fun k' hk sz v zs hv=>?_⟩
 ·show (if H.toks.length≤t then some k else own t)=some k
  split
  ·rfl
  ·rename_i hlt
   rcases b4 with b4 | b4
   ·exact a2 t (b4 ▸ ht)
   ·exact absurd (b4 t ht) hlt
 ·obtain ⟨c1,c2⟩:=hv
  have lt:∀ t,zeX v=some t→t<H.toks.length:=fun t ht=>by
   cases c1 with
   | nil=>cases ht
   | exact=>cases ht
   | tok _ h hb =>
    simp only [zeX,Option.some.injEq] at ht
    subst ht
    exact (List.getElem?_eq_some_iff.1 h).1
  refine ⟨?_,fun t ht=>?_⟩
  ·cases c1 with
   | nil=>exact .nil
   | exact=>exact .exact _
   | @tok t pos ty' _ h hb =>
    refine .tok _ (b3.tok t pos (fun e=>?_) h) (by rw [b3.bt]; exact hb)
    have e1:=a2 t e
    have e2:=c2 t rfl
    rw [e1] at e2
    injection e2 with e2
    exact hk e2.symm
  ·show (if H.toks.length≤t then some k else own t)=some k'
   rw [if_neg (by have:=lt t ht; omega)]
   exact c2 t ht
theorem zgf {κ:Type} {own:Nat→Option κ} {k:κ} {H:GH} {ty sz bytes:Nat} {s x:GV} {xs ys:List GV} (ha:Ap own k H sz s xs) (hn:zbB sz x=some ys) (hbt:H.bt≤H.toks.length) (h1:(xs.length+ys.length) * bytes≤zdu) (h2:xs.length+ys.length≤maxLen) :
 ∃ s' t',zb1 H ty sz bytes s x=some (s',t')∧s'.ok=true∧(∀ t,zbJ t s'=s')∧s'.one=true∧s'.cells=[s']∧H.toks.length≤t'.length ∧
  ∃ own',Ap own' k { H with toks:=t' } sz s' (xs++ys)∧∀ k',k'≠k→∀ sz v zs,Ap own k' H sz v zs→Ap own' k' { H with toks:=t' } sz v zs:=by
 obtain ⟨s',H',b1,b2,⟨b3,b4,b5,b6⟩,own',b7,b8⟩:=ztX (ty:=ty) (bytes:=bytes) ha hn hbt h1 h2
 have e:H'={ H with toks:=H'.toks }:=by
  cases H'; simp only at b3 b4 b5; subst b3 b4 b5; rfl
 have he:=b7.elems
 refine ⟨s',H'.toks, ?_,b2,fun t=>he.unb t,he.one,he.cells,b6,own',e ▸ b7,fun k' hk sz v zs hv=>e ▸ b8 k' hk sz v zs hv⟩
 have hs:∀ id off len sz' ag,s≠.hsl id off len sz' ag:=fun id off len sz' ag e=>by
  subst e; have:=ha.1; cases this
 unfold zb1
 split
 ·exact absurd rfl (hs _ _ _ _ _)
 ·rw [b1]; rfl
variable [Facts]
theorem zxr {ag:Bool} {ls:List Leaf} {es:List (GV × GV)} {k:GV} (hk:zaC ag ls k=true) (v:GV):za5 (zav es k v) k=some v:=by
 have hs:zca k k=true:=(zaQ hk hk).2 rfl
 unfold za5 zav
 split
 ·rename_i h
  induction es with
  | nil=>simp at h
  | cons p es ih =>
   rw [List.map_cons,List.find?_cons]
   cases hp:zca p.1 k with
   | true=>simp [hs]
   | false =>
    simp only [hp,Bool.false_eq_true,if_false]
    simp only [List.any_cons,hp,Bool.false_or] at h
    exact ih h
 ·rename_i h
  rw [List.find?_append]
  have:es.find? (fun p=>zca p.1 k)=none:=by
   rw [List.find?_eq_none]
   intro q hq hqk
   exact h (List.any_eq_true.2 ⟨q,hq,hqk⟩)
  rw [this]
  simp [hs]
theorem znU {ag:Bool} {ls:List Leaf} {es:List (GV × GV)} (h:∀ p∈es,zaC ag ls p.1=true) {k k':GV} (hk:zaC ag ls k=true) (hk':zaC ag ls k'=true) (hne:k≠k') (v:GV):za5 (zav es k v) k'=za5 es k':=by
 have hkk:zca k k'=false:=by
  rw [Bool.eq_false_iff]; exact fun e=>hne ((zaQ hk hk').1 e)
 unfold za5 zav
 congr 1
 split
 ·rename_i hany
  clear hany
  induction es with
  | nil=>rfl
  | cons p es ih =>
   rw [List.map_cons,List.find?_cons,List.find?_cons,ih fun q hq=>h q (by simp [hq])]
   cases hp:zca p.1 k with
   | false=>simp
   | true =>
    have e:=(zaQ (h p (by simp)) hk).1 hp
    have:zca p.1 k'=false:=by rw [e]; exact hkk
    simp [hkk,this]
 ·rw [List.find?_append]
  simp [hkk]
theorem ztY {ag:Bool} {ls:List Leaf} {es:List (GV × GV)} (h:∀ p∈es,zaC ag ls p.1=true) {k:GV} (hk:zaC ag ls k=true) (v:GV):∀ p∈zav es k v,zaC ag ls p.1=true:=by
 intro p hp
 unfold zav at hp
 split at hp
 ·obtain ⟨q,hq,rfl⟩:=List.mem_map.1 hp
  split
  ·exact hk
  ·exact h q hq
 ·rcases List.mem_append.1 hp with hp | hp
  ·exact h p hp
  ·rw [List.mem_singleton] at hp; subst hp; exact hk
structure MapIs {α:Type} (ag:Bool) (ls:List Leaf) (kE:α→GV) (z:GV) (P:α→GV→Prop) (es:List (GV × GV)):Prop where
 keys:∀ p∈es,zaC ag ls p.1=true
 at_:∀ a,zaC ag ls (kE a)=true→P a ((za5 es (kE a)).getD z)
theorem MapIs.nil {α:Type} {ag:Bool} {ls:List Leaf} {kE:α→GV} {z:GV} {P:α→GV→Prop} (h:∀ a,P a z):MapIs ag ls kE z P []:=⟨(fun _ h=>by cases h),fun a _=>h a⟩
theorem MapIs.imp {α:Type} {ag:Bool} {ls:List Leaf} {kE:α→GV} {z:GV} {P P':α→GV→Prop} {es:List (GV × GV)} (h:MapIs ag ls kE z P es) (hp:∀ a v,P a v→P' a v):MapIs ag ls kE z P' es:=⟨h.keys,fun a ha=>hp a _ (h.at_ a ha)⟩
theorem MapIs.put {α:Type} {ag:Bool} {ls:List Leaf} {kE:α→GV} {z:GV} {P P':α→GV→Prop} {es:List (GV × GV)} (h:MapIs ag ls kE z P es) (hi:∀ a b,kE a=kE b→a=b) {a:α} (ha:zaC ag ls (kE a)=true) {v:GV} (hv:P' a v) (hp:∀ b,b≠a→∀ w,P b w→P' b w) :
 MapIs ag ls kE z P' (zav es (kE a) v):=by
 refine ⟨ztY h.keys ha v,fun b hb=>?_⟩
 by_cases e:kE b=kE a
 ·have:=hi _ _ e
  subst this
  rw [zxr ha]
  exact hv
 ·rw [znU h.keys ha hb (fun e'=>e e'.symm)]
  exact hp b (fun e'=>e (by rw [e'])) _ (h.at_ b hb)
end Go.Sh
namespace Go.Proofs.YtchjbidfmhmmhaaGreatDoor
open Go.Sh
set_option maxHeartbeats 4000000
set_option maxRecDepth 100000
theorem zmd (a b:Nat) (k:IntKind) (n:Int) (x y z w:ByteArray):zaM a b 100 (.agg [.int k n,.str x,.str y,.str z,.str w])=some (.agg [.int k n,.str x,.str y,.str z,.str w]):=rfl
theorem zCY (a b:Nat) (x y z:ByteArray):zaM a b 100 (.agg [.str x,.str y,.str z])=some (.agg [.str x,.str y,.str z]):=rfl
theorem zdA (a:List UInt8) (H:GH):ecall T zjk [.str (mkB a)] H=some (.agg (elC (zaD a)),H):=by
 apply optW.eq
 rw [zbd zFr rfl (by simp [ztp]),zab]
 simp [ztp,zCl,elC,zaK,zae,zmd]
theorem zj3 (x:Lk) (H:GH):ecall T znC [.agg (lkC x)] H=some (.agg (elC (zbr x)),H):=by
 apply optW.eq
 rw [zbd zFs rfl (by simp [ztq]),zab]
 simp [ztq,zCm,elC,lkC,zaK,zae,zmd]
theorem zj4 (e:El) (H:GH):ecall T zsD [.agg (elC e)] H=some (.agg (lkC (zbQ e)),H):=by
 apply optW.eq
 rw [zbd zFF rfl (by simp [ztE]),zab]
 simp [ztE,zCx,elC,lkC,zaK,zae,zCY]
theorem znV (e:El) (H:GH):ecall T zw7 [.agg (elC e)] H=some (.agg (elC (zar e)),H):=by
 apply optW.eq
 rw [zbd zFG rfl (by simp [zqj]),zab]
 obtain ⟨k,a,b,c,d⟩:=e
 have g1:=fun H=>zj4 ⟨5,a,b,c,d⟩ H
 have g2:=fun H=>zj3 ⟨a,b,c⟩ H
 have g3:=fun H=>zdA a H
 simp only [elC,lkC] at g1 g2 g3
 by_cases hk:k=5
 ·subst hk
  simp [zqj,zzX,elC,lkC,zaK,zae,zmd,g1,g2,zar]
 ·simp [zqj,zzX,elC,lkC,zaK,zae,zmd,hk,g3,zar]
def zhO (vs:List Lk):List GV:=vs.flatMap lkC
abbrev lkG (x:Lk):GV:=.agg (lkC x)
theorem zhV:∀ vs:List Lk,(zhO vs).length=vs.length * 3
 | []=>rfl
 | v::vs=>by
  show (lkC v++zhO vs).length=_
  rw [List.length_append,zhV vs,List.length_cons]
  show 3+_=_; omega
def LRow (H:GH) (n:Nat) (v:GV) (vs:List Lk):Prop:=(v=.nilsl∧vs=[])∨∃ id,v=.hsl id 0 vs.length 3 false∧vs≠[]∧n+7≤id∧H.objs[id]?=some (.row 73 (zhO vs))
theorem LRow.ok {H:GH} {n:Nat} {v:GV} {vs:List Lk} (h:LRow H n v vs):v.ok=true∧(∀ t,zbJ t v=v)∧v.one=true∧v.cells=[v]:=by
 rcases h with ⟨rfl,_⟩ | ⟨id,rfl,_⟩ <;> exact ⟨rfl,fun _=>rfl,rfl,rfl⟩
theorem ztZ {H:GH} {n:Nat} {v:GV} {vs:List Lk} (h:LRow H n v vs) (hn:n+7≤H.objs.length) (hbo:H.bo≤n) (hl:vs.length≤1000) (x:Lk) :
 ∃ v' H',zbh H 73 3 48 v (.sl 3 [lkG x] .exact)=some (v',H')∧LRow H' n v' (vs++[x])∧H'.bo=H.bo∧H'.bt=H.bt∧H'.toks=H.toks∧H.objs.length≤H'.objs.length∧∀ i,i<n+7→H'.objs[i]?=H.objs[i]?:=by
 have hg:zbB 3 (.sl 3 [lkG x] .exact)=some [lkG x]:=by simp [zbB]
 rcases h with ⟨rfl,rfl⟩ | ⟨id,rfl,hne,hid,hr⟩
 ·refine ⟨.hsl H.objs.length 0 1 3 false,H.newObj (.row 73 (lkC x)), ?_,.inr ⟨_,rfl,by simp,hn, ?_⟩,rfl,rfl,rfl, ?_,fun i hi=>?_⟩
  ·unfold zbh
   rw [hg]
   simp [zdu,maxLen]
  ·show (H.objs++_)[H.objs.length]?=_
   simp [zhO,lkC]
  ·show _≤(H.objs++_).length
   simp
  ·show (H.objs++_)[i]?=_
   rw [List.getElem?_append_left (by omega)]
 ·have hlen:=zhV vs
  have hb:H.bo≤id:=by omega
  have ga:=zec (ty:=73) (sz:=3) (bytes:=48) (ag:=false) (x:=.sl 3 [lkG x] .exact) hr hg hlen hb (by simp only [List.length_singleton,zdu]; omega) (by simp only [List.length_singleton,maxLen]; omega) (by simp)
  have e1:zhO vs++[lkG x].flatMap GV.cells=zhO (vs++[x]):=by simp [zhO]
  have e2:vs.length+[lkG x].length=(vs++[x]).length:=by simp
  rw [e1,e2] at ga
  refine ⟨_,{ H with objs:=H.objs.set id .dead++[.row 73 (zhO (vs++[x]))] }, ?_,.inr ⟨_,rfl,by simp,hn, ?_⟩,rfl,rfl,rfl, ?_,fun i hi=>?_⟩
  ·unfold zbh
   rw [hg]
   simp only [Option.bind_some]
   exact ga
  ·show (H.objs.set id .dead++_)[H.objs.length]?=_
   rw [List.getElem?_append_right (by rw [List.length_set]; exact Nat.le_refl _),List.length_set,Nat.sub_self]; rfl
  ·show _≤(H.objs.set id .dead++_).length
   rw [List.length_append,List.length_set]; omega
  ·show (H.objs.set id .dead++_)[i]?=_
   rw [List.getElem?_append_left (by rw [List.length_set]; omega),List.getElem?_set_ne (by omega)]
abbrev Key:Type:=Nat × El
abbrev sLs:List Leaf:=[.str]
theorem zkZ {a b:List UInt8} (h:zaJ a=zaJ b):a=b:=by
 simp only [zaJ,GV.str.injEq] at h
 have:=congrArg (fun x:ByteArray=>x.data.toList) h
 simpa [zbn] using this
structure VAt (own:Nat→Option Key) (H:GH) (n:Nat) (w:Vw) (vn vl:GV) (eL eV eN eT:List (GV × GV)):Prop where
 obj:H.objs[n+6]?=some (.cells 111 [vn,vl,.map n,.map (n+1),.map (n+2),.map (n+3),.map (n+4),.map (n+5)])
 nodes:Ap own (0,zaD []) H 1 vn (w.nodes.map zaJ)
 links:LRow H n vl w.links
 labels:H.objs[n]?=some (.map false sLs eL)∧MapIs false sLs zaJ .nilsl (fun a v=>Ap own (1,zaD a) H 1 v ((w.labels a).map zaJ)) eL
 outs:H.objs[n+1]?=some (.map false sLs [])∧H.objs[n+2]?=some (.map false sLs [])
 values:H.objs[n+3]?=some (.map true kLs eV)∧MapIs true kLs elG .nilsl (fun x v=>Elems 3 v ((w.values x).map vlG)) eV
 names:H.objs[n+4]?=some (.map true kLs eN)∧MapIs true kLs elG .nilsl (fun x v=>Ap own (2,x) H 1 v ((w.names x).map zaJ)) eN
 there:H.objs[n+5]?=some (.map true kLs eT)∧MapIs true kLs elG (.bool false) (fun x v=>v=.bool (w.there x)) eT
 bo:H.bo≤n
 bt:H.bt≤H.toks.length
 len:n+7≤H.objs.length
def VIs (own:Nat→Option Key) (H:GH) (n:Nat) (w:Vw):Prop:=∃ vn vl eL eV eN eT,VAt own H n w vn vl eL eV eN eT
structure VwB (w:Vw) (k:Nat):Prop where
 nodes:w.nodes.length≤k
 links:w.links.length≤k
 labels:∀ a,(w.labels a).length≤k
 names:∀ a,(w.names a).length≤k
structure Below (n:Nat) (H H':GH):Prop where
 bo:H'.bo=H.bo
 bt:H'.bt=H.bt
 keep:∀ i,i<n→H'.objs[i]?=H.objs[i]?
theorem Below.refl (n:Nat) (H:GH):Below n H H:=⟨rfl,rfl,fun _ _=>rfl⟩
theorem Below.trans {n:Nat} {H H1 H2:GH} (h:Below n H H1) (h':Below n H1 H2):Below n H H2:=⟨h'.bo.trans h.bo,h'.bt.trans h.bt,fun i hi=>(h'.keep i hi).trans (h.keep i hi)⟩
theorem Below.rd {n:Nat} {H H':GH} (h:Below n H H') {s m:Nat} {S:List Stp} (hs:zxF H s m S) (h1:s<n) (h2:m<n):zxF H' s m S:=by
 obtain ⟨es,a,b,c⟩:=hs
 exact ⟨es,by rw [h.keep s h1]; exact a,by rw [h.keep m h2]; exact b,c⟩
theorem zhW (a:List UInt8) (h:a.length≤1125899906842624):zaC true kLs (elG (zaD a))=true:=zg6 ⟨h,by simp,by simp,by simp⟩ ⟨by simp,by simp⟩
theorem zk0 (a:List UInt8) (h:a.length≤1125899906842624):zaC false sLs (zaJ a)=true:=by
 simp [zaC,zaw,zaJ,maxLen]; omega
theorem zxs {own:Nat→Option Key} {H:GH} {n:Nat} {w:Vw} (hV:VIs own H n w) {k:Nat} (hB:VwB w k) (hk:k≤1000) (s:Nat) (e:El) (he:zaC true kLs (elG e)=true) (h1:e.k=1) :
 ∃ own' H',ecall T zfi [.ptr (n+6) 0,.ptr s 0,.agg (elC e)] H=some (.tup [],H')∧VIs own' H' n { w with there:=zfJ w.there e true,nodes:=w.nodes++[e.a] }∧Below n H H':=by
 obtain ⟨ek,ea,eb,ec,ed⟩:=e
 simp only at h1
 subst h1
 obtain ⟨vn,vl,eL,eV,eN,eT,V⟩:=hV
 have V6:=V.obj
 have V5:=V.there.1
 have hb5:H.bo≤n+5:=by have:=V.bo; omega
 have hb6:H.bo≤n+6:=by have:=V.bo; omega
 have hlen:=V.len
 have l5:n+5<H.objs.length:=by omega
 have l6:n+6<H.objs.length:=by omega
 let H1:GH:={ H with objs:=H.objs.set (n+5) (.map true kLs (zav eT (elG ⟨1,ea,eb,ec,ed⟩) (.bool true))) }
 have hap:Ap own (0,zaD []) H1 1 vn (w.nodes.map zaJ):=V.nodes.objs rfl rfl
 obtain ⟨v',t',a1,a2,a3,a4,a5,a6,own',a7,a8⟩:=zgf (ty:=9) (bytes:=16) (x:=.sl 1 [zaJ ea] .exact) (ys:=[zaJ ea]) hap (by simp [zbB]) V.bt (by have:=hB.nodes; simp only [List.length_map,List.length_singleton,zdu]; omega) (by have:=hB.nodes; simp only [List.length_map,List.length_singleton,maxLen]; omega)
 obtain ⟨lo,lu,l1,lc⟩:=V.links.ok
 have nu:=fun t=>V.nodes.elems.unb t
 have no:=V.nodes.elems.ok
 have n1:=V.nodes.elems.one
 simp only [H1] at a1
 have h56:∀ X,(H.objs.set (n+5) X)[n+6]?=some (.cells 111 [vn,vl,.map n,.map (n+1),.map (n+2),.map (n+3),.map (n+4),.map (n+5)]):=fun X=>by rw [List.getElem?_set_ne (by omega)]; exact V6
 have hk':=he
 simp only [elG,elC,zaJ] at he a1
 have key:optW (ecall T zfi [.ptr (n+6) 0,.ptr s 0,.agg (elC ⟨1,ea,eb,ec,ed⟩)] H) fun r=>r=(.tup [],{ H with objs:=(H.objs.set (n+5) (.map true kLs (zav eT (elG ⟨1,ea,eb,ec,ed⟩) (.bool true)))).set (n+6) (.cells 111 [v',vl,.map n,.map (n+1),.map (n+2),.map (n+3),.map (n+4),.map (n+5)]),toks:=t' }):=by
  rw [zag zma rfl (by simp [zdX]),zab]
  simp only [zdX,zkK]
  simp [elC,V6,V5,h56,he,hb5,hb6,nu,no,n1,zak,a1,a2,a3,a4,a5,zae,zc1]
  rfl
 obtain ⟨r,hr,rfl⟩:=key
 refine ⟨own',_,hr,⟨v',vl,eL,eV,eN,zav eT (elG ⟨1,ea,eb,ec,ed⟩) (.bool true), ?_⟩,rfl,rfl,fun i hi=>?_⟩
 ·have oth:∀ k':Key,k'≠(0,zaD [])→∀ sz v zs,Ap own k' H sz v zs→Ap own' k' { H with objs:=(H.objs.set (n+5) (.map true kLs (zav eT (elG ⟨1,ea,eb,ec,ed⟩) (.bool true)))).set (n+6) (.cells 111 [v',vl,.map n,.map (n+1),.map (n+2),.map (n+3),.map (n+4),.map (n+5)]),toks:=t' } sz v zs:=fun k' hk' sz v zs hv=>(a8 k' hk' sz v zs (hv.objs rfl rfl)).objs rfl rfl
  refine ⟨by simp [l6], ?_, ?_,⟨?_,V.labels.2.imp fun a v h=>oth _ (by simp) _ _ _ h⟩,⟨?_, ?_⟩,⟨?_,V.values.2⟩,⟨?_,V.names.2.imp fun a v h=>oth _ (by simp) _ _ _ h⟩,⟨?_, ?_⟩,V.bo, ?_,by simpa using V.len⟩
  ·have:=a7.objs (H':={ H with objs:=(H.objs.set (n+5) (.map true kLs (zav eT (elG ⟨1,ea,eb,ec,ed⟩) (.bool true)))).set (n+6) (.cells 111 [v',vl,.map n,.map (n+1),.map (n+2),.map (n+3),.map (n+4),.map (n+5)]),toks:=t' }) rfl rfl
   rw [List.map_append]; exact this
  ·rcases V.links with h | ⟨id,q1,q2,q3,q4⟩
   ·exact .inl h
   ·exact .inr ⟨id,q1,q2,q3,by
     show ((H.objs.set (n+5) _).set (n+6) _)[id]?=_
     rw [List.getElem?_set_ne (by omega),List.getElem?_set_ne (by omega)]; exact q4⟩
  ·show ((H.objs.set (n+5) _).set (n+6) _)[n]?=_
   rw [List.getElem?_set_ne (by omega),List.getElem?_set_ne (by omega)]; exact V.labels.1
  ·show ((H.objs.set (n+5) _).set (n+6) _)[n+1]?=_
   rw [List.getElem?_set_ne (by omega),List.getElem?_set_ne (by omega)]; exact V.outs.1
  ·show ((H.objs.set (n+5) _).set (n+6) _)[n+2]?=_
   rw [List.getElem?_set_ne (by omega),List.getElem?_set_ne (by omega)]; exact V.outs.2
  ·show ((H.objs.set (n+5) _).set (n+6) _)[n+3]?=_
   rw [List.getElem?_set_ne (by omega),List.getElem?_set_ne (by omega)]; exact V.values.1
  ·show ((H.objs.set (n+5) _).set (n+6) _)[n+4]?=_
   rw [List.getElem?_set_ne (by omega),List.getElem?_set_ne (by omega)]; exact V.names.1
  ·show ((H.objs.set (n+5) _).set (n+6) _)[n+5]?=_
   rw [List.getElem?_set_ne (by omega),List.getElem?_set_self l5]
  ·refine V.there.2.put (fun a b h=>zex h) hk' (by simp [zfJ]) fun b hb v hv=>?_
   rw [hv]; simp [zfJ,hb]
  ·exact Nat.le_trans V.bt a6
 ·show ((H.objs.set (n+5) _).set (n+6) _)[i]?=_
  rw [List.getElem?_set_ne (by omega),List.getElem?_set_ne (by omega)]
theorem Ap.noh {κ:Type} {own:Nat→Option κ} {k:κ} {H:GH} {sz:Nat} {v:GV} {xs:List GV} (h:Ap own k H sz v xs):∀ id off len sz' ag,v≠.hsl id off len sz' ag:=fun id off len sz' ag e=>by
 subst e; have:=h.1; cases this
theorem zt0 {own:Nat→Option Key} {H:GH} {n:Nat} {w:Vw} (hV:VIs own H n w) {k:Nat} (hB:VwB w k) (hk:k≤1000) (s:Nat) (e:El) (hbig:ElBig e) (h1:e.k=2) :
 ∃ own' H',ecall T zfi [.ptr (n+6) 0,.ptr s 0,.agg (elC e)] H=some (.tup [],H')∧VIs own' H' n (if w.there (zaD e.a) then { w with labels:=zfJ w.labels e.a (w.labels e.a++[e.d]) } else w)∧Below n H H':=by
 obtain ⟨ek,ea,eb,ec,ed⟩:=e
 simp only at h1
 subst h1
 obtain ⟨vn,vl,eL,eV,eN,eT,V⟩:=hV
 have V6:=V.obj
 have V5:=V.there.1
 have V0:=V.labels.1
 have hb0:=V.bo
 have hlen:=V.len
 have l0:n<H.objs.length:=by omega
 have hkn:=zhW ea hbig.a
 have hks:=zk0 ea hbig.a
 have hT:=V.there.2.at_ (zaD ea) hkn
 have gN:=fun H=>zdA ea H
 have hC:elC ⟨2,ea,eb,ec,ed⟩=[.int .i64 2,.str (mkB ea),.str (mkB eb),.str (mkB ec),.str (mkB ed)]:=rfl
 cases hth:w.there (zaD ea) with
 | false =>
  rw [hth] at hT
  simp only [Bool.false_eq_true,if_false]
  have key:optW (ecall T zfi [.ptr (n+6) 0,.ptr s 0,.agg (elC ⟨2,ea,eb,ec,ed⟩)] H) fun r=>r=(.tup [],H):=by
   rw [zag zma rfl (by simp [zdX]),zab]
   simp only [zdX,zkK,hC]
   simp [V6,V5,hkn,gN,hT]
  obtain ⟨r,hr,rfl⟩:=key
  exact ⟨own,H,hr,⟨vn,vl,eL,eV,eN,eT,V⟩,.refl _ _⟩
 | true =>
  rw [hth] at hT
  simp only [if_true]
  have hap:=V.labels.2.at_ ea hks
  generalize hv0:(za5 eL (zaJ ea)).getD .nilsl=v0 at hap
  obtain ⟨v',t',a1,a2,a3,a4,a5,a6,own',a7,a8⟩:=zgf (ty:=9) (bytes:=16) (x:=.sl 1 [zaJ ed] .exact) (ys:=[zaJ ed]) hap (by simp [zbB]) V.bt (by have:=hB.labels ea; simp only [List.length_map,List.length_singleton,zdu]; omega) (by have:=hB.labels ea; simp only [List.length_map,List.length_singleton,maxLen]; omega)
  have hset:∀ H ag ls m k,zdE H ag ls m k v'=zbi H ag ls m k v':=fun H ag ls m k=>zc0 (zcZ a1).2.1
  have q1:=hap.elems.unb
  have q2:=hap.elems.ok
  have hks':=hks
  simp only [zaJ] at hks hv0 a1
  have key:optW (ecall T zfi [.ptr (n+6) 0,.ptr s 0,.agg (elC ⟨2,ea,eb,ec,ed⟩)] H) fun r=>r=(.tup [],{ H with objs:=H.objs.set n (.map false sLs (zav eL (zaJ ea) v')),toks:=t' }):=by
   rw [zag zma rfl (by simp [zdX]),zab]
   simp only [zdX,zkK,hC]
   simp [V6,V5,V0,hkn,hks,gN,hT,hv0,q1,q2,zak,a1,a2,a3,a4,a5,hset,hb0,zc1]
   rfl
  obtain ⟨r,hr,rfl⟩:=key
  refine ⟨own',_,hr,⟨vn,vl,zav eL (zaJ ea) v',eV,eN,eT, ?_⟩,rfl,rfl,fun i hi=>?_⟩
  ·have oth:∀ k':Key,k'≠(1,zaD ea)→∀ sz v zs,Ap own k' H sz v zs→Ap own' k' { H with objs:=H.objs.set n (.map false sLs (zav eL (zaJ ea) v')),toks:=t' } sz v zs:=fun k' hk' sz v zs hv=>(a8 k' hk' sz v zs hv).objs rfl rfl
   have sne:∀ i,i≠n→(H.objs.set n (.map false sLs (zav eL (zaJ ea) v')))[i]?=H.objs[i]?:=fun i hi=>List.getElem?_set_ne (Ne.symm hi)
   refine ⟨(sne _ (by omega)).trans V.obj,oth _ (by simp) _ _ _ V.nodes, ?_,⟨List.getElem?_set_self l0, ?_⟩,⟨(sne _ (by omega)).trans V.outs.1,(sne _ (by omega)).trans V.outs.2⟩,⟨(sne _ (by omega)).trans V.values.1,V.values.2⟩,⟨(sne _ (by omega)).trans V.names.1,V.names.2.imp fun a v h=>oth _ (by simp) _ _ _ h⟩,⟨(sne _ (by omega)).trans V.there.1,V.there.2⟩,V.bo,Nat.le_trans V.bt a6,by simpa using V.len⟩
   ·rcases V.links with h | ⟨id,q1,q2,q3,q4⟩
    ·exact .inl h
    ·exact .inr ⟨id,q1,q2,q3,(sne _ (by omega)).trans q4⟩
   ·refine V.labels.2.put (fun a b h=>zkZ h) hks' ?_ fun b hb v hv=>?_
    ·have:=a7.objs (H':={ H with objs:=H.objs.set n (.map false sLs (zav eL (zaJ ea) v')),toks:=t' }) rfl rfl
     simp only [zfJ,if_true,List.map_append]
     exact this
    ·simp only [zfJ,if_neg hb]
     exact oth _ (by simp only [ne_eq,Prod.mk.injEq,El.mk.injEq,true_and,and_true]; exact hb) _ _ _ hv
  ·exact List.getElem?_set_ne (by omega)
theorem zxt {own:Nat→Option Key} {H:GH} {n:Nat} {w:Vw} (hV:VIs own H n w) {k:Nat} (hB:VwB w k) (hk:k≤1000) (s:Nat) (e:El) (hbig:ElBig e) (he:zaC true kLs (elG e)=true) (h1:e.k=3) :
 ∃ own' H',ecall T zfi [.ptr (n+6) 0,.ptr s 0,.agg (elC e)] H=some (.tup [],H')∧VIs own' H' n (if w.there (zaD e.a)&&w.there (zaD e.b) then { w with there:=zfJ w.there e true,links:=w.links++[zbQ e] } else w)∧Below n H H':=by
 obtain ⟨ek,ea,eb,ec,ed⟩:=e
 simp only at h1
 subst h1
 obtain ⟨vn,vl,eL,eV,eN,eT,V⟩:=hV
 have V6:=V.obj
 have V5:=V.there.1
 have hb5:H.bo≤n+5:=by have:=V.bo; omega
 have hb6:H.bo≤n+6:=by have:=V.bo; omega
 have hlen:=V.len
 have l5:n+5<H.objs.length:=by omega
 have l6:n+6<H.objs.length:=by omega
 have hka:=zhW ea hbig.a
 have hkb:=zhW eb hbig.b
 have hTa:=V.there.2.at_ (zaD ea) hka
 have hTb:=V.there.2.at_ (zaD eb) hkb
 have gA:=fun H=>zdA ea H
 have gB:=fun H=>zdA eb H
 have hC:elC ⟨3,ea,eb,ec,ed⟩=[.int .i64 3,.str (mkB ea),.str (mkB eb),.str (mkB ec),.str (mkB ed)]:=rfl
 cases hta:w.there (zaD ea) with
 | false =>
  rw [hta] at hTa
  simp only [Bool.false_eq_true,if_false,Bool.false_and]
  have key:optW (ecall T zfi [.ptr (n+6) 0,.ptr s 0,.agg (elC ⟨3,ea,eb,ec,ed⟩)] H) fun r=>r=(.tup [],H):=by
   rw [zag zma rfl (by simp [zdX]),zab]
   simp only [zdX,zkK,hC]
   simp [V6,V5,hka,gA,hTa]
  obtain ⟨r,hr,rfl⟩:=key
  exact ⟨own,H,hr,⟨vn,vl,eL,eV,eN,eT,V⟩,.refl _ _⟩
 | true =>
 rw [hta] at hTa
 cases htb:w.there (zaD eb) with
 | false =>
  rw [htb] at hTb
  simp only [Bool.false_eq_true,if_false,Bool.and_false]
  have key:optW (ecall T zfi [.ptr (n+6) 0,.ptr s 0,.agg (elC ⟨3,ea,eb,ec,ed⟩)] H) fun r=>r=(.tup [],H):=by
   rw [zag zma rfl (by simp [zdX]),zab]
   simp only [zdX,zkK,hC]
   simp [V6,V5,hka,hkb,gA,gB,hTa,hTb]
  obtain ⟨r,hr,rfl⟩:=key
  exact ⟨own,H,hr,⟨vn,vl,eL,eV,eN,eT,V⟩,.refl _ _⟩
 | true =>
  rw [htb] at hTb
  simp only [Bool.and_self,if_true]
  let H1:GH:={ H with objs:=H.objs.set (n+5) (.map true kLs (zav eT (elG ⟨3,ea,eb,ec,ed⟩) (.bool true))) }
  have hL1:LRow H1 n vl w.links:=by
   rcases V.links with h | ⟨id,q1,q2,q3,q4⟩
   ·exact .inl h
   ·exact .inr ⟨id,q1,q2,q3,(List.getElem?_set_ne (by omega)).trans q4⟩
  obtain ⟨v',H2,a1,a2,a3,a4,a5,a6,a7⟩:=ztZ hL1 (by simpa [H1] using V.len) V.bo (by have:=hB.links; omega) ⟨ea,eb,ec⟩
  have a7':∀ i,i<n+7→H2.objs[i]?=(H.objs.set (n+5) (.map true kLs (zav eT (elG ⟨3,ea,eb,ec,ed⟩) (.bool true))))[i]?:=a7
  have a3':H2.bo=H.bo:=a3
  have a4':H2.bt=H.bt:=a4
  have a5':H2.toks=H.toks:=a5
  obtain ⟨lo,lu,l1,lc⟩:=V.links.ok
  obtain ⟨lo',lu',l1',lc'⟩:=a2.ok
  have h56:∀ X,(H.objs.set (n+5) X)[n+6]?=some (.cells 111 [vn,vl,.map n,.map (n+1),.map (n+2),.map (n+3),.map (n+4),.map (n+5)]):=fun X=>by rw [List.getElem?_set_ne (by omega)]; exact V6
  have h26:H2.objs[n+6]?=some (.cells 111 [vn,vl,.map n,.map (n+1),.map (n+2),.map (n+3),.map (n+4),.map (n+5)]):=(a7' _ (by omega)).trans (h56 _)
  have hb62:H2.bo≤n+6:=by rw [a3']; exact hb6
  have gl:=fun H=>zj4 ⟨3,ea,eb,ec,ed⟩ H
  have he':=he
  simp only [H1,lkG,lkC,elG,hC] at a1 he gl
  have key:optW (ecall T zfi [.ptr (n+6) 0,.ptr s 0,.agg (elC ⟨3,ea,eb,ec,ed⟩)] H) fun r=>r=(.tup [],{ H2 with objs:=H2.objs.set (n+6) (.cells 111 [vn,v',.map n,.map (n+1),.map (n+2),.map (n+3),.map (n+4),.map (n+5)]) }):=by
   rw [zag zma rfl (by simp [zdX]),zab]
   simp only [zdX,zkK,hC]
   simp [V6,V5,h56,hka,hkb,gA,gB,hTa,hTb,he,hb5,lo,lu,gl,zak,a1,lo',lu',l1',lc',h26,hb62,zae,zeZ,lkC]
  obtain ⟨r,hr,rfl⟩:=key
  have l62:n+6<H2.objs.length:=by
   have:H.objs.length≤H2.objs.length:=by simpa [H1] using a6
   omega
  refine ⟨own,_,hr,⟨vn,v',eL,eV,eN,zav eT (elG ⟨3,ea,eb,ec,ed⟩) (.bool true), ?_⟩,a3',a4',fun i hi=>?_⟩
  ·have sne:∀ i,i<n+5→(H2.objs.set (n+6) (.cells 111 [vn,v',.map n,.map (n+1),.map (n+2),.map (n+3),.map (n+4),.map (n+5)]))[i]?=H.objs[i]?:=fun i hi=>by
    rw [List.getElem?_set_ne (by omega),a7' i (by omega),List.getElem?_set_ne (by omega)]
   have apo:∀ {k:Key} {sz v zs},Ap own k H sz v zs→Ap own k { H2 with objs:=H2.objs.set (n+6) (.cells 111 [vn,v',.map n,.map (n+1),.map (n+2),.map (n+3),.map (n+4),.map (n+5)]) } sz v zs:=fun h=>h.objs a5' a4'
   refine ⟨List.getElem?_set_self l62,apo V.nodes, ?_,⟨(sne _ (by omega)).trans V.labels.1,V.labels.2.imp fun a v h=>apo h⟩,⟨(sne _ (by omega)).trans V.outs.1,(sne _ (by omega)).trans V.outs.2⟩,⟨(sne _ (by omega)).trans V.values.1,V.values.2⟩,⟨(sne _ (by omega)).trans V.names.1,V.names.2.imp fun a v h=>apo h⟩,⟨?_, ?_⟩,by show H2.bo≤n; rw [a3']; exact V.bo,by show H2.bt≤H2.toks.length; rw [a4',a5']; exact V.bt,by simp only [List.length_set]; omega⟩
   ·rcases a2 with ⟨q1,q2⟩ | ⟨id,q1,q2,q3,q4⟩
    ·simp at q2
    ·exact .inr ⟨id,q1,q2,q3,(List.getElem?_set_ne (by omega)).trans q4⟩
   ·show (H2.objs.set (n+6) _)[n+5]?=_
    rw [List.getElem?_set_ne (by omega),a7' _ (by omega),List.getElem?_set_self l5]
   ·refine V.there.2.put (fun a b h=>zex h) he' (by simp [zfJ]) fun b hb v hv=>?_
    rw [hv]; simp [zfJ,hb]
  ·show (H2.objs.set (n+6) _)[i]?=_
   rw [List.getElem?_set_ne (by omega),a7' i (by omega),List.getElem?_set_ne (by omega)]
theorem zt1 {e:El} (hbig:ElBig e):zaC true kLs (elG (zar e))=true:=by
 unfold zar
 split
 ·exact zg6 ⟨hbig.a,hbig.b,hbig.c,by simp⟩ ⟨by simp,by simp⟩
 ·exact zhW _ hbig.a
theorem zt2 {own:Nat→Option Key} {H:GH} {n:Nat} {w:Vw} (hV:VIs own H n w) {k:Nat} (hB:VwB w k) (hk:k≤1000) {s m:Nat} {S:List Stp} (hS:zxF H s m S) (hsn:s<n) (hmn:m<n) (e:El) (hbig:ElBig e) (he:zaC true kLs (elG e)=true) (hL:(zce S e).length≤1000) (h1:e.k=4∨e.k=5) :
 ∃ own' H',ecall T zfi [.ptr (n+6) 0,.ptr s 0,.agg (elC e)] H=some (.tup [],H')∧VIs own' H' n (if w.there (zar e) then { w with values:=zfJ w.values e (zcj S e),names:=zfJ w.names (zar e) (w.names (zar e)++[e.d]) } else w)∧Below n H H':=by
 obtain ⟨vn,vl,eL,eV,eN,eT,V⟩:=hV
 have V6:=V.obj
 have V5:=V.there.1
 have V3:=V.values.1
 have V4:=V.names.1
 have hb3:H.bo≤n+3:=by have:=V.bo; omega
 have hb4:H.bo≤n+4:=by have:=V.bo; omega
 have hlen:=V.len
 have l3:n+3<H.objs.length:=by omega
 have l4:n+4<H.objs.length:=by omega
 have hko:=zt1 hbig
 have hT:=V.there.2.at_ (zar e) hko
 have go:=fun H=>znV e H
 obtain ⟨vv,gv,hE⟩:=zwq hS e he hL
 have e1:=hE.unb
 have e2:=hE.ok
 have e3:∀ H ag ls m k,zdE H ag ls m k vv=zbi H ag ls m k vv:=fun H ag ls m k=>zc0 (fun id off len sz' ag' e=>by subst e; cases hE)
 have hC:elC e=[.int .i64 e.k,.str (mkB e.a),.str (mkB e.b),.str (mkB e.c),.str (mkB e.d)]:=rfl
 have hCo:(elC (zar e)).length=5:=rfl
 have hCt:List.take 5 (elC (zar e))=elC (zar e):=rfl
 have hCa:(elC (zar e)).all GV.one=true:=rfl
 have hk1:¬ e.k=1:=by omega
 have hk2:¬ e.k=2:=by omega
 have hk3:¬ e.k=3:=by omega
 have hset5:zae [GV.int .i64 0,.str ⟨#[]⟩,.str ⟨#[]⟩,.str ⟨#[]⟩,.str ⟨#[]⟩] 0 (elC (zar e))=some (elC (zar e)):=rfl
 have he':=he
 cases hth:w.there (zar e) with
 | false =>
  rw [hth] at hT
  simp only [Bool.false_eq_true,if_false]
  have key:optW (ecall T zfi [.ptr (n+6) 0,.ptr s 0,.agg (elC e)] H) fun r=>r=(.tup [],H):=by
   simp only [hC] at go
   rw [zag zma rfl (by simp [zdX]),zab]
   simp only [zdX,zkK,hC]
   rcases h1 with h1 | h1 <;> simp [h1] at go <;> simp [V6,V5,h1,go,hCo,hCt,hCa,hset5,hko,hT]
  obtain ⟨r,hr,rfl⟩:=key
  exact ⟨own,H,hr,⟨vn,vl,eL,eV,eN,eT,V⟩,.refl _ _⟩
 | true =>
  rw [hth] at hT
  simp only [if_true]
  let H1:GH:={ H with objs:=H.objs.set (n+3) (.map true kLs (zav eV (elG e) vv)) }
  have hap0:=V.names.2.at_ (zar e) hko
  generalize hv0:(za5 eN (elG (zar e))).getD .nilsl=v0 at hap0
  let H2:GH:={ H with objs:=(H.objs.set (n+3) (.map true kLs (zav eV (elG e) vv))).set (n+4) (.map true kLs (zav eN (elG (zar e)) v0)) }
  have hap:Ap own (2,zar e) H2 1 v0 ((w.names (zar e)).map zaJ):=hap0.objs rfl rfl
  obtain ⟨v',t',a1,a2,a3,a4,a5,a6,own',a7,a8⟩:=zgf (ty:=9) (bytes:=16) (x:=.sl 1 [zaJ e.d] .exact) (ys:=[zaJ e.d]) hap (by simp [zbB]) V.bt (by have:=hB.names (zar e); simp only [List.length_map,List.length_singleton,zdu]; omega) (by have:=hB.names (zar e); simp only [List.length_map,List.length_singleton,maxLen]; omega)
  have hset:∀ H ag ls m k,zdE H ag ls m k v'=zbi H ag ls m k v':=fun H ag ls m k=>zc0 (zcZ a1).2.1
  have hset0:∀ H ag ls m k,zdE H ag ls m k v0=zbi H ag ls m k v0:=fun H ag ls m k=>zc0 (Ap.noh hap)
  have q1:=hap.elems.unb
  have q2:=hap.elems.ok
  have h36:∀ X,(H.objs.set (n+3) X)[n+6]?=some (.cells 111 [vn,vl,.map n,.map (n+1),.map (n+2),.map (n+3),.map (n+4),.map (n+5)]):=fun X=>by rw [List.getElem?_set_ne (by omega)]; exact V6
  have h34:∀ X,(H.objs.set (n+3) X)[n+4]?=some (.map true kLs eN):=fun X=>by rw [List.getElem?_set_ne (by omega)]; exact V4
  have h44:∀ X Y,((H.objs.set (n+3) X).set (n+4) Y)[n+4]?=some Y:=fun X Y=>by rw [List.getElem?_set_self (by simp; omega)]
  simp only [zaJ,H2] at a1
  have key:optW (ecall T zfi [.ptr (n+6) 0,.ptr s 0,.agg (elC e)] H) fun r=>r=(.tup [],{ H with objs:=((H.objs.set (n+3) (.map true kLs (zav eV (elG e) vv))).set (n+4) (.map true kLs (zav eN (elG (zar e)) v0))).set (n+4) (.map true kLs (zav (zav eN (elG (zar e)) v0) (elG (zar e)) v')),toks:=t' }):=by
   simp only [hC] at go gv
   simp only [elG,hC] at he a1 ⊢
   rw [zag zma rfl (by simp [zdX]),zab]
   simp only [zdX,zkK]
   rcases h1 with h1 | h1 <;> simp [h1] at go gv he a1 ⊢ <;> simp [V6,V5,V3,h1,go,gv,hCo,hCt,hCa,hset5,hko,hT,he,hb3,e1,e2,e3,h36,h34,hv0,q1,q2,hset0,hb4,a1,a2,a3,a4,a5,hset,h44,zak,zc1]
  obtain ⟨r,hr,rfl⟩:=key
  refine ⟨own',_,hr,⟨vn,vl,eL,zav eV (elG e) vv,zav (zav eN (elG (zar e)) v0) (elG (zar e)) v',eT, ?_⟩,rfl,rfl,fun i hi=>?_⟩
  ·generalize hHf:({ H with objs:=((H.objs.set (n+3) (.map true kLs (zav eV (elG e) vv))).set (n+4) (.map true kLs (zav eN (elG (zar e)) v0))).set (n+4) (.map true kLs (zav (zav eN (elG (zar e)) v0) (elG (zar e)) v')),toks:=t' } : GH)=Hf
   have f1:Hf.toks=t':=by rw [← hHf]
   have f2:Hf.bt=H.bt:=by rw [← hHf]
   have f3:Hf.bo=H.bo:=by rw [← hHf]
   have f4:Hf.objs=((H.objs.set (n+3) (.map true kLs (zav eV (elG e) vv))).set (n+4) (.map true kLs (zav eN (elG (zar e)) v0))).set (n+4) (.map true kLs (zav (zav eN (elG (zar e)) v0) (elG (zar e)) v')):=by rw [← hHf]
   have oth:∀ k':Key,k'≠(2,zar e)→∀ sz v zs,Ap own k' H sz v zs→Ap own' k' Hf sz v zs:=fun k' hk' sz v zs hv=>(a8 k' hk' sz v zs (hv.objs rfl rfl)).objs f1 f2
   have sne:∀ i,i≠n+3→i≠n+4→Hf.objs[i]?=H.objs[i]?:=fun i h h'=>by
    rw [f4,List.getElem?_set_ne (by omega),List.getElem?_set_ne (by omega),List.getElem?_set_ne (by omega)]
   refine ⟨(sne _ (by omega) (by omega)).trans V.obj,oth _ (by simp) _ _ _ V.nodes, ?_,⟨(sne _ (by omega) (by omega)).trans V.labels.1,V.labels.2.imp fun a v h=>oth _ (by simp) _ _ _ h⟩,⟨(sne _ (by omega) (by omega)).trans V.outs.1,(sne _ (by omega) (by omega)).trans V.outs.2⟩,⟨?_, ?_⟩,⟨?_, ?_⟩,⟨(sne _ (by omega) (by omega)).trans V.there.1,V.there.2⟩,by rw [f3]; exact V.bo,by rw [f1,f2]; exact Nat.le_trans V.bt a6,by rw [f4]; simpa using V.len⟩
   ·rcases V.links with h | ⟨id,q1,q2,q3,q4⟩
    ·exact .inl h
    ·exact .inr ⟨id,q1,q2,q3,(sne _ (by omega) (by omega)).trans q4⟩
   ·rw [f4,List.getElem?_set_ne (by omega),List.getElem?_set_ne (by omega),List.getElem?_set_self l3]
   ·refine V.values.2.put (fun a b h=>zex h) he' (by simpa [zfJ] using hE) fun b hb v hv=>?_
    simpa [zfJ,hb] using hv
   ·rw [f4,List.getElem?_set_self (by simp; omega)]
   ·have p1:MapIs true kLs elG .nilsl (fun x v=>Ap own (2,x) H 1 v ((w.names x).map zaJ)) (zav eN (elG (zar e)) v0):=V.names.2.put (fun a b h=>zex h) hko hap0 fun b _ v hv=>hv
    refine p1.put (fun a b h=>zex h) hko ?_ fun b hb v hv=>?_
    ·simp only [zfJ,if_true,List.map_append]
     exact a7.objs f1 f2
    ·simp only [zfJ,if_neg hb]
     exact oth _ (by simp only [ne_eq,Prod.mk.injEq,true_and]; exact hb) _ _ _ hv
  ·show (((H.objs.set (n+3) _).set (n+4) _).set (n+4) _)[i]?=_
   rw [List.getElem?_set_ne (by omega),List.getElem?_set_ne (by omega),List.getElem?_set_ne (by omega)]
end Go.Proofs.YtchjbidfmhmmhaaGreatDoor
