/- Own work: the zaG machine and what it shows, part Gv. -/
import Derived.Test.YtchjbidfmhmmhaaGreatDoorShF
import Derived.Test.YtchjbidfmhmmhaaGreatDoorGr
set_option linter.all false
namespace Go.Sh
def Ap {κ:Type} (own:Nat→Option κ) (k:κ) (H:GH) (sz:Nat) (v:GV) (xs:List GV):Prop:=App H sz v xs∧∀ t,zen v=some t→own t=some k
theorem Ap.elems {κ:Type} {own:Nat→Option κ} {k:κ} {H:GH} {sz:Nat} {v:GV} {xs:List GV} (h:Ap own k H sz v xs):Elems sz v xs:=h.1.elems
theorem Ap.nil {κ:Type} {own:Nat→Option κ} {k:κ} {H:GH} {sz:Nat} : Ap own k H sz .nilsl []:=⟨.nil,fun _ h=>by cases h⟩
theorem Ap.objs {κ:Type} {own:Nat→Option κ} {k:κ} {H H':GH} {sz:Nat} {v:GV} {xs:List GV} (h:Ap own k H sz v xs) (ht:H'.toks=H.toks) (hb:H'.bt=H.bt):Ap own k H' sz v xs:=by
 obtain ⟨h1,h2⟩:=h
 refine ⟨?_,h2⟩
 cases h1 with
 | nil=>exact .nil
 | exact=>exact .exact _
 | tok _ h hb'=>exact .tok _ (ht ▸ h) (hb ▸ hb')
theorem zrT {κ:Type} {own:Nat→Option κ} {k:κ} {H:GH} {ty sz bytes:Nat} {s x:GV} {xs ys:List GV} (ha:Ap own k H sz s xs) (hn:zbK sz x=some ys) (hbt:H.bt≤H.toks.length) (h1:(xs.length+ys.length) * bytes≤room) (h2:xs.length+ys.length≤maxLen) :
 ∃ s' H',zaU H ty sz bytes s x=some (s',H')∧s'.ok=true∧(H'.objs=H.objs∧H'.bo=H.bo∧H'.bt=H.bt∧H.toks.length≤H'.toks.length) ∧
  ∃ own',Ap own' k H' sz s' (xs++ys)∧∀ k',k'≠k→∀ sz v zs,Ap own k' H sz v zs→Ap own' k' H' sz v zs:=by
 obtain ⟨a1,a2⟩:=ha
 obtain ⟨s',H',b1,b2,b3,b4⟩:=zf2 (ty:=ty) (bytes:=bytes) a1 hn hbt h1 h2
 refine ⟨s',H',b1,b2.ok,⟨b3.objs,b3.bo,b3.bt,b3.len⟩,fun t=>if H.toks.length≤t then some k else own t,⟨b2,fun t ht=>?_⟩,fun k' hk sz v zs hv=>?_⟩
 ·show (if H.toks.length≤t then some k else own t)=some k
  split
  ·rfl
  ·rename_i hlt
   rcases b4 with b4 | b4
   ·exact a2 t (b4 ▸ ht)
   ·exact absurd (b4 t ht) hlt
 ·obtain ⟨c1,c2⟩:=hv
  have lt:∀ t,zen v=some t→t<H.toks.length:=fun t ht=>by
   cases c1 with
   | nil=>cases ht
   | exact=>cases ht
   | tok _ h hb =>
    simp only [zen,Option.some.injEq] at ht
    subst ht
    exact (List.getElem?_eq_some_iff.1 h).1
  refine ⟨?_,fun t ht=>?_⟩
  ·cases c1 with
   | nil=>exact .nil
   | exact=>exact .exact _
   | @tok t pos ty' _ h hb =>
    refine .tok _ (b3.tok t pos (fun e=>?_) h) (by rw [b3.bt]; exact hb)
    have e1:=a2 t e
    have e2:=c2 t rfl
    rw [e1] at e2
    injection e2 with e2
    exact hk e2.symm
  ·show (if H.toks.length≤t then some k else own t)=some k'
   rw [if_neg (by have:=lt t ht; omega)]
   exact c2 t ht
theorem zfA {κ:Type} {own:Nat→Option κ} {k:κ} {H:GH} {ty sz bytes:Nat} {s x:GV} {xs ys:List GV} (ha:Ap own k H sz s xs) (hn:zbK sz x=some ys) (hbt:H.bt≤H.toks.length) (h1:(xs.length+ys.length) * bytes≤room) (h2:xs.length+ys.length≤maxLen) :
 ∃ s' t',zbN H ty sz bytes s x=some (s',t')∧s'.ok=true∧(∀ t,zbx t s'=s')∧s'.one=true∧s'.cells=[s']∧H.toks.length≤t'.length ∧
  ∃ own',Ap own' k { H with toks:=t' } sz s' (xs++ys)∧∀ k',k'≠k→∀ sz v zs,Ap own k' H sz v zs→Ap own' k' { H with toks:=t' } sz v zs:=by
 obtain ⟨s',H',b1,b2,⟨b3,b4,b5,b6⟩,own',b7,b8⟩:=zrT (ty:=ty) (bytes:=bytes) ha hn hbt h1 h2
 have e:H'={ H with toks:=H'.toks }:=by
  cases H'; simp only at b3 b4 b5; subst b3 b4 b5; rfl
 have he:=b7.elems
 refine ⟨s',H'.toks, ?_,b2,fun t=>he.unb t,he.one,he.cells,b6,own',e ▸ b7,fun k' hk sz v zs hv=>e ▸ b8 k' hk sz v zs hv⟩
 have hs:∀ id off len sz' ag,s≠.hsl id off len sz' ag:=fun id off len sz' ag e=>by
  subst e; have:=ha.1; cases this
 unfold zbN
 split
 ·exact absurd rfl (hs _ _ _ _ _)
 ·rw [b1]; rfl
variable [Facts]
theorem zvl {ag:Bool} {ls:List Leaf} {es:List (GV × GV)} {k:GV} (hk:zaA ag ls k=true) (v:GV):zaX (zas es k v) k=some v:=by
 have hs:zbZ k k=true:=(zaL hk hk).2 rfl
 unfold zaX zas
 split
 ·rename_i h
  induction es with
  | nil=>simp at h
  | cons p es ih =>
   rw [List.map_cons,List.find?_cons]
   cases hp:zbZ p.1 k with
   | true=>simp [hs]
   | false =>
    simp only [hp,Bool.false_eq_true,if_false]
    simp only [List.any_cons,hp,Bool.false_or] at h
    exact ih h
 ·rename_i h
  rw [List.find?_append]
  have:es.find? (fun p=>zbZ p.1 k)=none:=by
   rw [List.find?_eq_none]
   intro q hq hqk
   exact h (List.any_eq_true.2 ⟨q,hq,hqk⟩)
  rw [this]
  simp [hs]
theorem zmv {ag:Bool} {ls:List Leaf} {es:List (GV × GV)} (h:∀ p∈es,zaA ag ls p.1=true) {k k':GV} (hk:zaA ag ls k=true) (hk':zaA ag ls k'=true) (hne:k≠k') (v:GV):zaX (zas es k v) k'=zaX es k':=by
 have hkk:zbZ k k'=false:=by
  rw [Bool.eq_false_iff]; exact fun e=>hne ((zaL hk hk').1 e)
 unfold zaX zas
 congr 1
 split
 ·rename_i hany
  clear hany
  induction es with
  | nil=>rfl
  | cons p es ih =>
   rw [List.map_cons,List.find?_cons,List.find?_cons,ih fun q hq=>h q (by simp [hq])]
   cases hp:zbZ p.1 k with
   | false=>simp
   | true =>
    have e:=(zaL (h p (by simp)) hk).1 hp
    have:zbZ p.1 k'=false:=by rw [e]; exact hkk
    simp [hkk,this]
 ·rw [List.find?_append]
  simp [hkk]
theorem zrU {ag:Bool} {ls:List Leaf} {es:List (GV × GV)} (h:∀ p∈es,zaA ag ls p.1=true) {k:GV} (hk:zaA ag ls k=true) (v:GV):∀ p∈zas es k v,zaA ag ls p.1=true:=by
 intro p hp
 unfold zas at hp
 split at hp
 ·obtain ⟨q,hq,rfl⟩:=List.mem_map.1 hp
  split
  ·exact hk
  ·exact h q hq
 ·rcases List.mem_append.1 hp with hp | hp
  ·exact h p hp
  ·rw [List.mem_singleton] at hp; subst hp; exact hk
structure MapIs {α:Type} (ag:Bool) (ls:List Leaf) (kE:α→GV) (z:GV) (P:α→GV→Prop) (es:List (GV × GV)):Prop where
 keys:∀ p∈es,zaA ag ls p.1=true
 at_:∀ a,zaA ag ls (kE a)=true→P a ((zaX es (kE a)).getD z)
theorem MapIs.nil {α:Type} {ag:Bool} {ls:List Leaf} {kE:α→GV} {z:GV} {P:α→GV→Prop} (h:∀ a,P a z):MapIs ag ls kE z P []:=⟨(fun _ h=>by cases h),fun a _=>h a⟩
theorem MapIs.imp {α:Type} {ag:Bool} {ls:List Leaf} {kE:α→GV} {z:GV} {P P':α→GV→Prop} {es:List (GV × GV)} (h:MapIs ag ls kE z P es) (hp:∀ a v,P a v→P' a v):MapIs ag ls kE z P' es:=⟨h.keys,fun a ha=>hp a _ (h.at_ a ha)⟩
theorem MapIs.put {α:Type} {ag:Bool} {ls:List Leaf} {kE:α→GV} {z:GV} {P P':α→GV→Prop} {es:List (GV × GV)} (h:MapIs ag ls kE z P es) (hi:∀ a b,kE a=kE b→a=b) {a:α} (ha:zaA ag ls (kE a)=true) {v:GV} (hv:P' a v) (hp:∀ b,b≠a→∀ w,P b w→P' b w) :
 MapIs ag ls kE z P' (zas es (kE a) v):=by
 refine ⟨zrU h.keys ha v,fun b hb=>?_⟩
 by_cases e:kE b=kE a
 ·have:=hi _ _ e
  subst this
  rw [zvl ha]
  exact hv
 ·rw [zmv h.keys ha hb (fun e'=>e e'.symm)]
  exact hp b (fun e'=>e (by rw [e'])) _ (h.at_ b hb)
end Go.Sh
namespace Go.Proofs.YtchjbidfmhmmhaaGreatDoor
open Go.Sh
set_option maxHeartbeats 4000000
set_option maxRecDepth 100000
theorem znO (a b:Nat) (k:IntKind) (n:Int) (x y z w:ByteArray):zaI a b 100 (.agg [.int k n,.str x,.str y,.str z,.str w])=some (.agg [.int k n,.str x,.str y,.str z,.str w]):=rfl
theorem zAv (a b:Nat) (x y z:ByteArray):zaI a b 100 (.agg [.str x,.str y,.str z])=some (.agg [.str x,.str y,.str z]):=rfl
theorem zcX (a:List UInt8) (H:GH):ecall T ziC [.str (mkB a)] H=some (.agg (elC (zaw a)),H):=by
 apply optW.eq
 rw [zci zCQ rfl (by simp [zrx]),zab]
 simp [zrx,zz0,elC,za6,zae,znO]
theorem zi8 (x:Lk) (H:GH):ecall T zmg [.agg (lkC x)] H=some (.agg (elC (zcl x)),H):=by
 apply optW.eq
 rw [zci zCR rfl (by simp [zry]),zab]
 simp [zry,zz1,elC,lkC,za6,zae,znO]
theorem zi9 (e:El) (H:GH):ecall T zq0 [.agg (elC e)] H=some (.agg (lkC (zcd e)),H):=by
 apply optW.eq
 rw [zci zCZ rfl (by simp [zrD]),zab]
 simp [zrD,zz9,elC,lkC,za6,zae,zAv]
theorem zmw (e:El) (H:GH):ecall T zu4 [.agg (elC e)] H=some (.agg (elC (zan e)),H):=by
 apply optW.eq
 rw [zci zC0 rfl (by simp [zoS]),zab]
 obtain ⟨k,a,b,c,d⟩:=e
 have g1:=fun H=>zi9 ⟨5,a,b,c,d⟩ H
 have g2:=fun H=>zi8 ⟨a,b,c⟩ H
 have g3:=fun H=>zcX a H
 simp only [elC,lkC] at g1 g2 g3
 by_cases hk:k=5
 ·subst hk
  simp [zoS,zxJ,elC,lkC,za6,zae,znO,g1,g2,zan]
 ·simp [zoS,zxJ,elC,lkC,za6,zae,znO,hk,g3,zan]
def zg4 (vs:List Lk):List GV:=vs.flatMap lkC
abbrev lkG (x:Lk):GV:=.agg (lkC x)
theorem zhe:∀ vs:List Lk,(zg4 vs).length=vs.length * 3
 | []=>rfl
 | v::vs=>by
  show (lkC v++zg4 vs).length=_
  rw [List.length_append,zhe vs,List.length_cons]
  show 3+_=_; omega
def LRow (H:GH) (n:Nat) (v:GV) (vs:List Lk):Prop:=(v=.nilsl∧vs=[])∨∃ id,v=.hsl id 0 vs.length 3 false∧vs≠[]∧n+7≤id∧H.objs[id]?=some (.row 73 (zg4 vs))
theorem LRow.ok {H:GH} {n:Nat} {v:GV} {vs:List Lk} (h:LRow H n v vs):v.ok=true∧(∀ t,zbx t v=v)∧v.one=true∧v.cells=[v]:=by
 rcases h with ⟨rfl,_⟩ | ⟨id,rfl,_⟩ <;> exact ⟨rfl,fun _=>rfl,rfl,rfl⟩
theorem zrV {H:GH} {n:Nat} {v:GV} {vs:List Lk} (h:LRow H n v vs) (hn:n+7≤H.objs.length) (hbo:H.bo≤n) (hl:vs.length≤1000) (x:Lk) :
 ∃ v' H',za9 H 73 3 48 v (.sl 3 [lkG x] .exact)=some (v',H')∧LRow H' n v' (vs++[x])∧H'.bo=H.bo∧H'.bt=H.bt∧H'.toks=H.toks∧H.objs.length≤H'.objs.length∧∀ i,i<n+7→H'.objs[i]?=H.objs[i]?:=by
 have hg:zbK 3 (.sl 3 [lkG x] .exact)=some [lkG x]:=by simp [zbK]
 rcases h with ⟨rfl,rfl⟩ | ⟨id,rfl,hne,hid,hr⟩
 ·refine ⟨.hsl H.objs.length 0 1 3 false,H.newObj (.row 73 (lkC x)), ?_,.inr ⟨_,rfl,by simp,hn, ?_⟩,rfl,rfl,rfl, ?_,fun i hi=>?_⟩
  ·unfold za9
   rw [hg]
   simp [room,maxLen]
  ·show (H.objs++_)[H.objs.length]?=_
   simp [zg4,lkC]
  ·show _≤(H.objs++_).length
   simp
  ·show (H.objs++_)[i]?=_
   rw [List.getElem?_append_left (by omega)]
 ·have hlen:=zhe vs
  have hb:H.bo≤id:=by omega
  have ga:=zdN (ty:=73) (sz:=3) (bytes:=48) (ag:=false) (x:=.sl 3 [lkG x] .exact) hr hg hlen hb (by simp only [List.length_singleton,room]; omega) (by simp only [List.length_singleton,maxLen]; omega) (by simp)
  have e1:zg4 vs++[lkG x].flatMap GV.cells=zg4 (vs++[x]):=by simp [zg4]
  have e2:vs.length+[lkG x].length=(vs++[x]).length:=by simp
  rw [e1,e2] at ga
  refine ⟨_,{ H with objs:=H.objs.set id .dead++[.row 73 (zg4 (vs++[x]))] }, ?_,.inr ⟨_,rfl,by simp,hn, ?_⟩,rfl,rfl,rfl, ?_,fun i hi=>?_⟩
  ·unfold za9
   rw [hg]
   simp only [Option.bind_some]
   exact ga
  ·show (H.objs.set id .dead++_)[H.objs.length]?=_
   rw [List.getElem?_append_right (by rw [List.length_set]; exact Nat.le_refl _),List.length_set,Nat.sub_self]; rfl
  ·show _≤(H.objs.set id .dead++_).length
   rw [List.length_append,List.length_set]; omega
  ·show (H.objs.set id .dead++_)[i]?=_
   rw [List.getElem?_append_left (by rw [List.length_set]; omega),List.getElem?_set_ne (by omega)]
abbrev Key:Type:=Nat × El
abbrev sLs:List Leaf:=[.str]
theorem zj0 {a b:List UInt8} (h:za2 a=za2 b):a=b:=by
 simp only [za2,GV.str.injEq] at h
 have:=congrArg (fun x:ByteArray=>x.data.toList) h
 simpa [zbE] using this
structure VAt (own:Nat→Option Key) (H:GH) (n:Nat) (w:Vw) (vn vl:GV) (eL eV eN eT:List (GV × GV)):Prop where
 obj:H.objs[n+6]?=some (.cells 111 [vn,vl,.map n,.map (n+1),.map (n+2),.map (n+3),.map (n+4),.map (n+5)])
 nodes:Ap own (0,zaw []) H 1 vn (w.nodes.map za2)
 links:LRow H n vl w.links
 labels:H.objs[n]?=some (.map false sLs eL)∧MapIs false sLs za2 .nilsl (fun a v=>Ap own (1,zaw a) H 1 v ((w.labels a).map za2)) eL
 outs:H.objs[n+1]?=some (.map false sLs [])∧H.objs[n+2]?=some (.map false sLs [])
 values:H.objs[n+3]?=some (.map true kLs eV)∧MapIs true kLs elG .nilsl (fun x v=>Elems 3 v ((w.values x).map vlG)) eV
 names:H.objs[n+4]?=some (.map true kLs eN)∧MapIs true kLs elG .nilsl (fun x v=>Ap own (2,x) H 1 v ((w.names x).map za2)) eN
 there:H.objs[n+5]?=some (.map true kLs eT)∧MapIs true kLs elG (.bool false) (fun x v=>v=.bool (w.there x)) eT
 bo:H.bo≤n
 bt:H.bt≤H.toks.length
 len:n+7≤H.objs.length
def VIs (own:Nat→Option Key) (H:GH) (n:Nat) (w:Vw):Prop:=∃ vn vl eL eV eN eT,VAt own H n w vn vl eL eV eN eT
structure VwB (w:Vw) (k:Nat):Prop where
 nodes:w.nodes.length≤k
 links:w.links.length≤k
 labels:∀ a,(w.labels a).length≤k
 names:∀ a,(w.names a).length≤k
structure Below (n:Nat) (H H':GH):Prop where
 bo:H'.bo=H.bo
 bt:H'.bt=H.bt
 keep:∀ i,i<n→H'.objs[i]?=H.objs[i]?
theorem Below.refl (n:Nat) (H:GH):Below n H H:=⟨rfl,rfl,fun _ _=>rfl⟩
theorem Below.trans {n:Nat} {H H1 H2:GH} (h:Below n H H1) (h':Below n H1 H2):Below n H H2:=⟨h'.bo.trans h.bo,h'.bt.trans h.bt,fun i hi=>(h'.keep i hi).trans (h.keep i hi)⟩
theorem Below.rd {n:Nat} {H H':GH} (h:Below n H H') {s m:Nat} {S:List Stp} (hs:zvB H s m S) (h1:s<n) (h2:m<n):zvB H' s m S:=by
 obtain ⟨es,a,b,c⟩:=hs
 exact ⟨es,by rw [h.keep s h1]; exact a,by rw [h.keep m h2]; exact b,c⟩
theorem zfB (a:List UInt8) (h:a.length≤1125899906842624):zaA true kLs (elG (zaw a))=true:=zgo ⟨h,by simp,by simp,by simp⟩ ⟨by simp,by simp⟩
theorem zhA (a:List UInt8) (h:a.length≤1125899906842624):zaA false sLs (za2 a)=true:=by
 simp [zaA,zat,za2,maxLen]; omega
theorem zvm {own:Nat→Option Key} {H:GH} {n:Nat} {w:Vw} (hV:VIs own H n w) {k:Nat} (hB:VwB w k) (hk:k≤1000) (s:Nat) (e:El) (he:zaA true kLs (elG e)=true) (h1:e.k=1) :
 ∃ own' H',ecall T zeK [.ptr (n+6) 0,.ptr s 0,.agg (elC e)] H=some (.tup [],H')∧VIs own' H' n { w with there:=ze3 w.there e true,nodes:=w.nodes++[e.a] }∧Below n H H':=by
 obtain ⟨ek,ea,eb,ec,ed⟩:=e
 simp only at h1
 subst h1
 obtain ⟨vn,vl,eL,eV,eN,eT,V⟩:=hV
 have V6:=V.obj
 have V5:=V.there.1
 have hb5:H.bo≤n+5:=by have:=V.bo; omega
 have hb6:H.bo≤n+6:=by have:=V.bo; omega
 have hlen:=V.len
 have l5:n+5<H.objs.length:=by omega
 have l6:n+6<H.objs.length:=by omega
 let H1:GH:={ H with objs:=H.objs.set (n+5) (.map true kLs (zas eT (elG ⟨1,ea,eb,ec,ed⟩) (.bool true))) }
 have hap:Ap own (0,zaw []) H1 1 vn (w.nodes.map za2):=V.nodes.objs rfl rfl
 obtain ⟨v',t',a1,a2,a3,a4,a5,a6,own',a7,a8⟩:=zfA (ty:=9) (bytes:=16) (x:=.sl 1 [za2 ea] .exact) (ys:=[za2 ea]) hap (by simp [zbK]) V.bt (by have:=hB.nodes; simp only [List.length_map,List.length_singleton,room]; omega) (by have:=hB.nodes; simp only [List.length_map,List.length_singleton,maxLen]; omega)
 obtain ⟨lo,lu,l1,lc⟩:=V.links.ok
 have nu:=fun t=>V.nodes.elems.unb t
 have no:=V.nodes.elems.ok
 have n1:=V.nodes.elems.one
 simp only [H1] at a1
 have h56:∀ X,(H.objs.set (n+5) X)[n+6]?=some (.cells 111 [vn,vl,.map n,.map (n+1),.map (n+2),.map (n+3),.map (n+4),.map (n+5)]):=fun X=>by rw [List.getElem?_set_ne (by omega)]; exact V6
 have hk':=he
 simp only [elG,elC,za2] at he a1
 have key:optW (ecall T zeK [.ptr (n+6) 0,.ptr s 0,.agg (elC ⟨1,ea,eb,ec,ed⟩)] H) fun r=>r=(.tup [],{ H with objs:=(H.objs.set (n+5) (.map true kLs (zas eT (elG ⟨1,ea,eb,ec,ed⟩) (.bool true)))).set (n+6) (.cells 111 [v',vl,.map n,.map (n+1),.map (n+2),.map (n+3),.map (n+4),.map (n+5)]),toks:=t' }):=by
  rw [zad zkX rfl (by simp [zdx]),zab]
  simp only [zdx,zjO]
  simp [elC,V6,V5,h56,he,hb5,hb6,nu,no,n1,zaj,a1,a2,a3,a4,a5,zae,zcJ]
  rfl
 obtain ⟨r,hr,rfl⟩:=key
 refine ⟨own',_,hr,⟨v',vl,eL,eV,eN,zas eT (elG ⟨1,ea,eb,ec,ed⟩) (.bool true), ?_⟩,rfl,rfl,fun i hi=>?_⟩
 ·have oth:∀ k':Key,k'≠(0,zaw [])→∀ sz v zs,Ap own k' H sz v zs→Ap own' k' { H with objs:=(H.objs.set (n+5) (.map true kLs (zas eT (elG ⟨1,ea,eb,ec,ed⟩) (.bool true)))).set (n+6) (.cells 111 [v',vl,.map n,.map (n+1),.map (n+2),.map (n+3),.map (n+4),.map (n+5)]),toks:=t' } sz v zs:=fun k' hk' sz v zs hv=>(a8 k' hk' sz v zs (hv.objs rfl rfl)).objs rfl rfl
  refine ⟨by simp [l6], ?_, ?_,⟨?_,V.labels.2.imp fun a v h=>oth _ (by simp) _ _ _ h⟩,⟨?_, ?_⟩,⟨?_,V.values.2⟩,⟨?_,V.names.2.imp fun a v h=>oth _ (by simp) _ _ _ h⟩,⟨?_, ?_⟩,V.bo, ?_,by simpa using V.len⟩
  ·have:=a7.objs (H':={ H with objs:=(H.objs.set (n+5) (.map true kLs (zas eT (elG ⟨1,ea,eb,ec,ed⟩) (.bool true)))).set (n+6) (.cells 111 [v',vl,.map n,.map (n+1),.map (n+2),.map (n+3),.map (n+4),.map (n+5)]),toks:=t' }) rfl rfl
   rw [List.map_append]; exact this
  ·rcases V.links with h | ⟨id,q1,q2,q3,q4⟩
   ·exact .inl h
   ·exact .inr ⟨id,q1,q2,q3,by
     show ((H.objs.set (n+5) _).set (n+6) _)[id]?=_
     rw [List.getElem?_set_ne (by omega),List.getElem?_set_ne (by omega)]; exact q4⟩
  ·show ((H.objs.set (n+5) _).set (n+6) _)[n]?=_
   rw [List.getElem?_set_ne (by omega),List.getElem?_set_ne (by omega)]; exact V.labels.1
  ·show ((H.objs.set (n+5) _).set (n+6) _)[n+1]?=_
   rw [List.getElem?_set_ne (by omega),List.getElem?_set_ne (by omega)]; exact V.outs.1
  ·show ((H.objs.set (n+5) _).set (n+6) _)[n+2]?=_
   rw [List.getElem?_set_ne (by omega),List.getElem?_set_ne (by omega)]; exact V.outs.2
  ·show ((H.objs.set (n+5) _).set (n+6) _)[n+3]?=_
   rw [List.getElem?_set_ne (by omega),List.getElem?_set_ne (by omega)]; exact V.values.1
  ·show ((H.objs.set (n+5) _).set (n+6) _)[n+4]?=_
   rw [List.getElem?_set_ne (by omega),List.getElem?_set_ne (by omega)]; exact V.names.1
  ·show ((H.objs.set (n+5) _).set (n+6) _)[n+5]?=_
   rw [List.getElem?_set_ne (by omega),List.getElem?_set_self l5]
  ·refine V.there.2.put (fun a b h=>zd5 h) hk' (by simp [ze3]) fun b hb v hv=>?_
   rw [hv]; simp [ze3,hb]
  ·exact Nat.le_trans V.bt a6
 ·show ((H.objs.set (n+5) _).set (n+6) _)[i]?=_
  rw [List.getElem?_set_ne (by omega),List.getElem?_set_ne (by omega)]
theorem Ap.noh {κ:Type} {own:Nat→Option κ} {k:κ} {H:GH} {sz:Nat} {v:GV} {xs:List GV} (h:Ap own k H sz v xs):∀ id off len sz' ag,v≠.hsl id off len sz' ag:=fun id off len sz' ag e=>by
 subst e; have:=h.1; cases this
theorem zrW {own:Nat→Option Key} {H:GH} {n:Nat} {w:Vw} (hV:VIs own H n w) {k:Nat} (hB:VwB w k) (hk:k≤1000) (s:Nat) (e:El) (hbig:ElBig e) (h1:e.k=2) :
 ∃ own' H',ecall T zeK [.ptr (n+6) 0,.ptr s 0,.agg (elC e)] H=some (.tup [],H')∧VIs own' H' n (if w.there (zaw e.a) then { w with labels:=ze3 w.labels e.a (w.labels e.a++[e.d]) } else w)∧Below n H H':=by
 obtain ⟨ek,ea,eb,ec,ed⟩:=e
 simp only at h1
 subst h1
 obtain ⟨vn,vl,eL,eV,eN,eT,V⟩:=hV
 have V6:=V.obj
 have V5:=V.there.1
 have V0:=V.labels.1
 have hb0:=V.bo
 have hlen:=V.len
 have l0:n<H.objs.length:=by omega
 have hkn:=zfB ea hbig.a
 have hks:=zhA ea hbig.a
 have hT:=V.there.2.at_ (zaw ea) hkn
 have gN:=fun H=>zcX ea H
 have hC:elC ⟨2,ea,eb,ec,ed⟩=[.int .i64 2,.str (mkB ea),.str (mkB eb),.str (mkB ec),.str (mkB ed)]:=rfl
 cases hth:w.there (zaw ea) with
 | false =>
  rw [hth] at hT
  simp only [Bool.false_eq_true,if_false]
  have key:optW (ecall T zeK [.ptr (n+6) 0,.ptr s 0,.agg (elC ⟨2,ea,eb,ec,ed⟩)] H) fun r=>r=(.tup [],H):=by
   rw [zad zkX rfl (by simp [zdx]),zab]
   simp only [zdx,zjO,hC]
   simp [V6,V5,hkn,gN,hT]
  obtain ⟨r,hr,rfl⟩:=key
  exact ⟨own,H,hr,⟨vn,vl,eL,eV,eN,eT,V⟩,.refl _ _⟩
 | true =>
  rw [hth] at hT
  simp only [if_true]
  have hap:=V.labels.2.at_ ea hks
  generalize hv0:(zaX eL (za2 ea)).getD .nilsl=v0 at hap
  obtain ⟨v',t',a1,a2,a3,a4,a5,a6,own',a7,a8⟩:=zfA (ty:=9) (bytes:=16) (x:=.sl 1 [za2 ed] .exact) (ys:=[za2 ed]) hap (by simp [zbK]) V.bt (by have:=hB.labels ea; simp only [List.length_map,List.length_singleton,room]; omega) (by have:=hB.labels ea; simp only [List.length_map,List.length_singleton,maxLen]; omega)
  have hset:∀ H ag ls m k,zdh H ag ls m k v'=zbb H ag ls m k v':=fun H ag ls m k=>zcI (zcH a1).2.1
  have q1:=hap.elems.unb
  have q2:=hap.elems.ok
  have hks':=hks
  simp only [za2] at hks hv0 a1
  have key:optW (ecall T zeK [.ptr (n+6) 0,.ptr s 0,.agg (elC ⟨2,ea,eb,ec,ed⟩)] H) fun r=>r=(.tup [],{ H with objs:=H.objs.set n (.map false sLs (zas eL (za2 ea) v')),toks:=t' }):=by
   rw [zad zkX rfl (by simp [zdx]),zab]
   simp only [zdx,zjO,hC]
   simp [V6,V5,V0,hkn,hks,gN,hT,hv0,q1,q2,zaj,a1,a2,a3,a4,a5,hset,hb0,zcJ]
   rfl
  obtain ⟨r,hr,rfl⟩:=key
  refine ⟨own',_,hr,⟨vn,vl,zas eL (za2 ea) v',eV,eN,eT, ?_⟩,rfl,rfl,fun i hi=>?_⟩
  ·have oth:∀ k':Key,k'≠(1,zaw ea)→∀ sz v zs,Ap own k' H sz v zs→Ap own' k' { H with objs:=H.objs.set n (.map false sLs (zas eL (za2 ea) v')),toks:=t' } sz v zs:=fun k' hk' sz v zs hv=>(a8 k' hk' sz v zs hv).objs rfl rfl
   have sne:∀ i,i≠n→(H.objs.set n (.map false sLs (zas eL (za2 ea) v')))[i]?=H.objs[i]?:=fun i hi=>List.getElem?_set_ne (Ne.symm hi)
   refine ⟨(sne _ (by omega)).trans V.obj,oth _ (by simp) _ _ _ V.nodes, ?_,⟨List.getElem?_set_self l0, ?_⟩,⟨(sne _ (by omega)).trans V.outs.1,(sne _ (by omega)).trans V.outs.2⟩,⟨(sne _ (by omega)).trans V.values.1,V.values.2⟩,⟨(sne _ (by omega)).trans V.names.1,V.names.2.imp fun a v h=>oth _ (by simp) _ _ _ h⟩,⟨(sne _ (by omega)).trans V.there.1,V.there.2⟩,V.bo,Nat.le_trans V.bt a6,by simpa using V.len⟩
   ·rcases V.links with h | ⟨id,q1,q2,q3,q4⟩
    ·exact .inl h
    ·exact .inr ⟨id,q1,q2,q3,(sne _ (by omega)).trans q4⟩
   ·refine V.labels.2.put (fun a b h=>zj0 h) hks' ?_ fun b hb v hv=>?_
    ·have:=a7.objs (H':={ H with objs:=H.objs.set n (.map false sLs (zas eL (za2 ea) v')),toks:=t' }) rfl rfl
     simp only [ze3,if_true,List.map_append]
     exact this
    ·simp only [ze3,if_neg hb]
     exact oth _ (by simp only [ne_eq,Prod.mk.injEq,El.mk.injEq,true_and,and_true]; exact hb) _ _ _ hv
  ·exact List.getElem?_set_ne (by omega)
theorem zvn {own:Nat→Option Key} {H:GH} {n:Nat} {w:Vw} (hV:VIs own H n w) {k:Nat} (hB:VwB w k) (hk:k≤1000) (s:Nat) (e:El) (hbig:ElBig e) (he:zaA true kLs (elG e)=true) (h1:e.k=3) :
 ∃ own' H',ecall T zeK [.ptr (n+6) 0,.ptr s 0,.agg (elC e)] H=some (.tup [],H')∧VIs own' H' n (if w.there (zaw e.a)&&w.there (zaw e.b) then { w with there:=ze3 w.there e true,links:=w.links++[zcd e] } else w)∧Below n H H':=by
 obtain ⟨ek,ea,eb,ec,ed⟩:=e
 simp only at h1
 subst h1
 obtain ⟨vn,vl,eL,eV,eN,eT,V⟩:=hV
 have V6:=V.obj
 have V5:=V.there.1
 have hb5:H.bo≤n+5:=by have:=V.bo; omega
 have hb6:H.bo≤n+6:=by have:=V.bo; omega
 have hlen:=V.len
 have l5:n+5<H.objs.length:=by omega
 have l6:n+6<H.objs.length:=by omega
 have hka:=zfB ea hbig.a
 have hkb:=zfB eb hbig.b
 have hTa:=V.there.2.at_ (zaw ea) hka
 have hTb:=V.there.2.at_ (zaw eb) hkb
 have gA:=fun H=>zcX ea H
 have gB:=fun H=>zcX eb H
 have hC:elC ⟨3,ea,eb,ec,ed⟩=[.int .i64 3,.str (mkB ea),.str (mkB eb),.str (mkB ec),.str (mkB ed)]:=rfl
 cases hta:w.there (zaw ea) with
 | false =>
  rw [hta] at hTa
  simp only [Bool.false_eq_true,if_false,Bool.false_and]
  have key:optW (ecall T zeK [.ptr (n+6) 0,.ptr s 0,.agg (elC ⟨3,ea,eb,ec,ed⟩)] H) fun r=>r=(.tup [],H):=by
   rw [zad zkX rfl (by simp [zdx]),zab]
   simp only [zdx,zjO,hC]
   simp [V6,V5,hka,gA,hTa]
  obtain ⟨r,hr,rfl⟩:=key
  exact ⟨own,H,hr,⟨vn,vl,eL,eV,eN,eT,V⟩,.refl _ _⟩
 | true =>
 rw [hta] at hTa
 cases htb:w.there (zaw eb) with
 | false =>
  rw [htb] at hTb
  simp only [Bool.false_eq_true,if_false,Bool.and_false]
  have key:optW (ecall T zeK [.ptr (n+6) 0,.ptr s 0,.agg (elC ⟨3,ea,eb,ec,ed⟩)] H) fun r=>r=(.tup [],H):=by
   rw [zad zkX rfl (by simp [zdx]),zab]
   simp only [zdx,zjO,hC]
   simp [V6,V5,hka,hkb,gA,gB,hTa,hTb]
  obtain ⟨r,hr,rfl⟩:=key
  exact ⟨own,H,hr,⟨vn,vl,eL,eV,eN,eT,V⟩,.refl _ _⟩
 | true =>
  rw [htb] at hTb
  simp only [Bool.and_self,if_true]
  let H1:GH:={ H with objs:=H.objs.set (n+5) (.map true kLs (zas eT (elG ⟨3,ea,eb,ec,ed⟩) (.bool true))) }
  have hL1:LRow H1 n vl w.links:=by
   rcases V.links with h | ⟨id,q1,q2,q3,q4⟩
   ·exact .inl h
   ·exact .inr ⟨id,q1,q2,q3,(List.getElem?_set_ne (by omega)).trans q4⟩
  obtain ⟨v',H2,a1,a2,a3,a4,a5,a6,a7⟩:=zrV hL1 (by simpa [H1] using V.len) V.bo (by have:=hB.links; omega) ⟨ea,eb,ec⟩
  have a7':∀ i,i<n+7→H2.objs[i]?=(H.objs.set (n+5) (.map true kLs (zas eT (elG ⟨3,ea,eb,ec,ed⟩) (.bool true))))[i]?:=a7
  have a3':H2.bo=H.bo:=a3
  have a4':H2.bt=H.bt:=a4
  have a5':H2.toks=H.toks:=a5
  obtain ⟨lo,lu,l1,lc⟩:=V.links.ok
  obtain ⟨lo',lu',l1',lc'⟩:=a2.ok
  have h56:∀ X,(H.objs.set (n+5) X)[n+6]?=some (.cells 111 [vn,vl,.map n,.map (n+1),.map (n+2),.map (n+3),.map (n+4),.map (n+5)]):=fun X=>by rw [List.getElem?_set_ne (by omega)]; exact V6
  have h26:H2.objs[n+6]?=some (.cells 111 [vn,vl,.map n,.map (n+1),.map (n+2),.map (n+3),.map (n+4),.map (n+5)]):=(a7' _ (by omega)).trans (h56 _)
  have hb62:H2.bo≤n+6:=by rw [a3']; exact hb6
  have gl:=fun H=>zi9 ⟨3,ea,eb,ec,ed⟩ H
  have he':=he
  simp only [H1,lkG,lkC,elG,hC] at a1 he gl
  have key:optW (ecall T zeK [.ptr (n+6) 0,.ptr s 0,.agg (elC ⟨3,ea,eb,ec,ed⟩)] H) fun r=>r=(.tup [],{ H2 with objs:=H2.objs.set (n+6) (.cells 111 [vn,v',.map n,.map (n+1),.map (n+2),.map (n+3),.map (n+4),.map (n+5)]) }):=by
   rw [zad zkX rfl (by simp [zdx]),zab]
   simp only [zdx,zjO,hC]
   simp [V6,V5,h56,hka,hkb,gA,gB,hTa,hTb,he,hb5,lo,lu,gl,zaj,a1,lo',lu',l1',lc',h26,hb62,zae,zep,lkC]
  obtain ⟨r,hr,rfl⟩:=key
  have l62:n+6<H2.objs.length:=by
   have:H.objs.length≤H2.objs.length:=by simpa [H1] using a6
   omega
  refine ⟨own,_,hr,⟨vn,v',eL,eV,eN,zas eT (elG ⟨3,ea,eb,ec,ed⟩) (.bool true), ?_⟩,a3',a4',fun i hi=>?_⟩
  ·have sne:∀ i,i<n+5→(H2.objs.set (n+6) (.cells 111 [vn,v',.map n,.map (n+1),.map (n+2),.map (n+3),.map (n+4),.map (n+5)]))[i]?=H.objs[i]?:=fun i hi=>by
    rw [List.getElem?_set_ne (by omega),a7' i (by omega),List.getElem?_set_ne (by omega)]
   have apo:∀ {k:Key} {sz v zs},Ap own k H sz v zs→Ap own k { H2 with objs:=H2.objs.set (n+6) (.cells 111 [vn,v',.map n,.map (n+1),.map (n+2),.map (n+3),.map (n+4),.map (n+5)]) } sz v zs:=fun h=>h.objs a5' a4'
   refine ⟨List.getElem?_set_self l62,apo V.nodes, ?_,⟨(sne _ (by omega)).trans V.labels.1,V.labels.2.imp fun a v h=>apo h⟩,⟨(sne _ (by omega)).trans V.outs.1,(sne _ (by omega)).trans V.outs.2⟩,⟨(sne _ (by omega)).trans V.values.1,V.values.2⟩,⟨(sne _ (by omega)).trans V.names.1,V.names.2.imp fun a v h=>apo h⟩,⟨?_, ?_⟩,by show H2.bo≤n; rw [a3']; exact V.bo,by show H2.bt≤H2.toks.length; rw [a4',a5']; exact V.bt,by simp only [List.length_set]; omega⟩
   ·rcases a2 with ⟨q1,q2⟩ | ⟨id,q1,q2,q3,q4⟩
    ·simp at q2
    ·exact .inr ⟨id,q1,q2,q3,(List.getElem?_set_ne (by omega)).trans q4⟩
   ·show (H2.objs.set (n+6) _)[n+5]?=_
    rw [List.getElem?_set_ne (by omega),a7' _ (by omega),List.getElem?_set_self l5]
   ·refine V.there.2.put (fun a b h=>zd5 h) he' (by simp [ze3]) fun b hb v hv=>?_
    rw [hv]; simp [ze3,hb]
  ·show (H2.objs.set (n+6) _)[i]?=_
   rw [List.getElem?_set_ne (by omega),a7' i (by omega),List.getElem?_set_ne (by omega)]
theorem zrX {e:El} (hbig:ElBig e):zaA true kLs (elG (zan e))=true:=by
 unfold zan
 split
 ·exact zgo ⟨hbig.a,hbig.b,hbig.c,by simp⟩ ⟨by simp,by simp⟩
 ·exact zfB _ hbig.a
theorem zrY {own:Nat→Option Key} {H:GH} {n:Nat} {w:Vw} (hV:VIs own H n w) {k:Nat} (hB:VwB w k) (hk:k≤1000) {s m:Nat} {S:List Stp} (hS:zvB H s m S) (hsn:s<n) (hmn:m<n) (e:El) (hbig:ElBig e) (he:zaA true kLs (elG e)=true) (hL:(zb2 S e).length≤1000) (h1:e.k=4∨e.k=5) :
 ∃ own' H',ecall T zeK [.ptr (n+6) 0,.ptr s 0,.agg (elC e)] H=some (.tup [],H')∧VIs own' H' n (if w.there (zan e) then { w with values:=ze3 w.values e (zb5 S e),names:=ze3 w.names (zan e) (w.names (zan e)++[e.d]) } else w)∧Below n H H':=by
 obtain ⟨vn,vl,eL,eV,eN,eT,V⟩:=hV
 have V6:=V.obj
 have V5:=V.there.1
 have V3:=V.values.1
 have V4:=V.names.1
 have hb3:H.bo≤n+3:=by have:=V.bo; omega
 have hb4:H.bo≤n+4:=by have:=V.bo; omega
 have hlen:=V.len
 have l3:n+3<H.objs.length:=by omega
 have l4:n+4<H.objs.length:=by omega
 have hko:=zrX hbig
 have hT:=V.there.2.at_ (zan e) hko
 have go:=fun H=>zmw e H
 obtain ⟨vv,gv,hE⟩:=zug hS e he hL
 have e1:=hE.unb
 have e2:=hE.ok
 have e3:∀ H ag ls m k,zdh H ag ls m k vv=zbb H ag ls m k vv:=fun H ag ls m k=>zcI (fun id off len sz' ag' e=>by subst e; cases hE)
 have hC:elC e=[.int .i64 e.k,.str (mkB e.a),.str (mkB e.b),.str (mkB e.c),.str (mkB e.d)]:=rfl
 have hCo:(elC (zan e)).length=5:=rfl
 have hCt:List.take 5 (elC (zan e))=elC (zan e):=rfl
 have hCa:(elC (zan e)).all GV.one=true:=rfl
 have hk1:¬ e.k=1:=by omega
 have hk2:¬ e.k=2:=by omega
 have hk3:¬ e.k=3:=by omega
 have hset5:zae [GV.int .i64 0,.str ⟨#[]⟩,.str ⟨#[]⟩,.str ⟨#[]⟩,.str ⟨#[]⟩] 0 (elC (zan e))=some (elC (zan e)):=rfl
 have he':=he
 cases hth:w.there (zan e) with
 | false =>
  rw [hth] at hT
  simp only [Bool.false_eq_true,if_false]
  have key:optW (ecall T zeK [.ptr (n+6) 0,.ptr s 0,.agg (elC e)] H) fun r=>r=(.tup [],H):=by
   simp only [hC] at go
   rw [zad zkX rfl (by simp [zdx]),zab]
   simp only [zdx,zjO,hC]
   rcases h1 with h1 | h1 <;> simp [h1] at go <;> simp [V6,V5,h1,go,hCo,hCt,hCa,hset5,hko,hT]
  obtain ⟨r,hr,rfl⟩:=key
  exact ⟨own,H,hr,⟨vn,vl,eL,eV,eN,eT,V⟩,.refl _ _⟩
 | true =>
  rw [hth] at hT
  simp only [if_true]
  let H1:GH:={ H with objs:=H.objs.set (n+3) (.map true kLs (zas eV (elG e) vv)) }
  have hap0:=V.names.2.at_ (zan e) hko
  generalize hv0:(zaX eN (elG (zan e))).getD .nilsl=v0 at hap0
  let H2:GH:={ H with objs:=(H.objs.set (n+3) (.map true kLs (zas eV (elG e) vv))).set (n+4) (.map true kLs (zas eN (elG (zan e)) v0)) }
  have hap:Ap own (2,zan e) H2 1 v0 ((w.names (zan e)).map za2):=hap0.objs rfl rfl
  obtain ⟨v',t',a1,a2,a3,a4,a5,a6,own',a7,a8⟩:=zfA (ty:=9) (bytes:=16) (x:=.sl 1 [za2 e.d] .exact) (ys:=[za2 e.d]) hap (by simp [zbK]) V.bt (by have:=hB.names (zan e); simp only [List.length_map,List.length_singleton,room]; omega) (by have:=hB.names (zan e); simp only [List.length_map,List.length_singleton,maxLen]; omega)
  have hset:∀ H ag ls m k,zdh H ag ls m k v'=zbb H ag ls m k v':=fun H ag ls m k=>zcI (zcH a1).2.1
  have hset0:∀ H ag ls m k,zdh H ag ls m k v0=zbb H ag ls m k v0:=fun H ag ls m k=>zcI (Ap.noh hap)
  have q1:=hap.elems.unb
  have q2:=hap.elems.ok
  have h36:∀ X,(H.objs.set (n+3) X)[n+6]?=some (.cells 111 [vn,vl,.map n,.map (n+1),.map (n+2),.map (n+3),.map (n+4),.map (n+5)]):=fun X=>by rw [List.getElem?_set_ne (by omega)]; exact V6
  have h34:∀ X,(H.objs.set (n+3) X)[n+4]?=some (.map true kLs eN):=fun X=>by rw [List.getElem?_set_ne (by omega)]; exact V4
  have h44:∀ X Y,((H.objs.set (n+3) X).set (n+4) Y)[n+4]?=some Y:=fun X Y=>by rw [List.getElem?_set_self (by simp; omega)]
  simp only [za2,H2] at a1
  have key:optW (ecall T zeK [.ptr (n+6) 0,.ptr s 0,.agg (elC e)] H) fun r=>r=(.tup [],{ H with objs:=((H.objs.set (n+3) (.map true kLs (zas eV (elG e) vv))).set (n+4) (.map true kLs (zas eN (elG (zan e)) v0))).set (n+4) (.map true kLs (zas (zas eN (elG (zan e)) v0) (elG (zan e)) v')),toks:=t' }):=by
   simp only [hC] at go gv
   simp only [elG,hC] at he a1 ⊢
   rw [zad zkX rfl (by simp [zdx]),zab]
   simp only [zdx,zjO]
   rcases h1 with h1 | h1 <;> simp [h1] at go gv he a1 ⊢ <;> simp [V6,V5,V3,h1,go,gv,hCo,hCt,hCa,hset5,hko,hT,he,hb3,e1,e2,e3,h36,h34,hv0,q1,q2,hset0,hb4,a1,a2,a3,a4,a5,hset,h44,zaj,zcJ]
  obtain ⟨r,hr,rfl⟩:=key
  refine ⟨own',_,hr,⟨vn,vl,eL,zas eV (elG e) vv,zas (zas eN (elG (zan e)) v0) (elG (zan e)) v',eT, ?_⟩,rfl,rfl,fun i hi=>?_⟩
  ·generalize hHf:({ H with objs:=((H.objs.set (n+3) (.map true kLs (zas eV (elG e) vv))).set (n+4) (.map true kLs (zas eN (elG (zan e)) v0))).set (n+4) (.map true kLs (zas (zas eN (elG (zan e)) v0) (elG (zan e)) v')),toks:=t' } : GH)=Hf
   have f1:Hf.toks=t':=by rw [← hHf]
   have f2:Hf.bt=H.bt:=by rw [← hHf]
   have f3:Hf.bo=H.bo:=by rw [← hHf]
   have f4:Hf.objs=((H.objs.set (n+3) (.map true kLs (zas eV (elG e) vv))).set (n+4) (.map true kLs (zas eN (elG (zan e)) v0))).set (n+4) (.map true kLs (zas (zas eN (elG (zan e)) v0) (elG (zan e)) v')):=by rw [← hHf]
   have oth:∀ k':Key,k'≠(2,zan e)→∀ sz v zs,Ap own k' H sz v zs→Ap own' k' Hf sz v zs:=fun k' hk' sz v zs hv=>(a8 k' hk' sz v zs (hv.objs rfl rfl)).objs f1 f2
   have sne:∀ i,i≠n+3→i≠n+4→Hf.objs[i]?=H.objs[i]?:=fun i h h'=>by
    rw [f4,List.getElem?_set_ne (by omega),List.getElem?_set_ne (by omega),List.getElem?_set_ne (by omega)]
   refine ⟨(sne _ (by omega) (by omega)).trans V.obj,oth _ (by simp) _ _ _ V.nodes, ?_,⟨(sne _ (by omega) (by omega)).trans V.labels.1,V.labels.2.imp fun a v h=>oth _ (by simp) _ _ _ h⟩,⟨(sne _ (by omega) (by omega)).trans V.outs.1,(sne _ (by omega) (by omega)).trans V.outs.2⟩,⟨?_, ?_⟩,⟨?_, ?_⟩,⟨(sne _ (by omega) (by omega)).trans V.there.1,V.there.2⟩,by rw [f3]; exact V.bo,by rw [f1,f2]; exact Nat.le_trans V.bt a6,by rw [f4]; simpa using V.len⟩
   ·rcases V.links with h | ⟨id,q1,q2,q3,q4⟩
    ·exact .inl h
    ·exact .inr ⟨id,q1,q2,q3,(sne _ (by omega) (by omega)).trans q4⟩
   ·rw [f4,List.getElem?_set_ne (by omega),List.getElem?_set_ne (by omega),List.getElem?_set_self l3]
   ·refine V.values.2.put (fun a b h=>zd5 h) he' (by simpa [ze3] using hE) fun b hb v hv=>?_
    simpa [ze3,hb] using hv
   ·rw [f4,List.getElem?_set_self (by simp; omega)]
   ·have p1:MapIs true kLs elG .nilsl (fun x v=>Ap own (2,x) H 1 v ((w.names x).map za2)) (zas eN (elG (zan e)) v0):=V.names.2.put (fun a b h=>zd5 h) hko hap0 fun b _ v hv=>hv
    refine p1.put (fun a b h=>zd5 h) hko ?_ fun b hb v hv=>?_
    ·simp only [ze3,if_true,List.map_append]
     exact a7.objs f1 f2
    ·simp only [ze3,if_neg hb]
     exact oth _ (by simp only [ne_eq,Prod.mk.injEq,true_and]; exact hb) _ _ _ hv
  ·show (((H.objs.set (n+3) _).set (n+4) _).set (n+4) _)[i]?=_
   rw [List.getElem?_set_ne (by omega),List.getElem?_set_ne (by omega),List.getElem?_set_ne (by omega)]
end Go.Proofs.YtchjbidfmhmmhaaGreatDoor
