/- Own work: the zaG machine and what it shows, part ShE. -/
import Derived.Test.YtchjbidfmhmmhaaGreatDoorShD
set_option linter.all false
namespace Go.Sh
variable [Facts]
structure Restr (K K':Ctx) (nO nT:Nat):Prop where
 w:K'.w=K.w
 N:K'.N=K.N
 obj:∀ id,id<nO→id<K'.nO∧∀ b,K'.φ id=some b→K.φ id=some b
 imm:∀ b o,Imm K b o→Imm K' b o
 tok:∀ t,t<nT→K'.toks[t]?=K.toks[t]?∧K'.τ t=K.τ t
 κ:∀ id,id<nO→K'.κ id=K.κ id
section
variable {K K':Ctx} {nO nT:Nat}
theorem zs5 {n:Nat} {cs:List GV} {x':GV} (h:zaI nO nT (n+1) (.agg cs)=some x'):∃ cs',cs.mapM (zaI nO nT n)=some cs'∧x'=.agg cs':=by
 simp only [zaI,Option.map_eq_some_iff] at h
 obtain ⟨cs',h1,rfl⟩:=h
 exact ⟨cs',h1,rfl⟩
theorem zlx {n:Nat} {x x':GV} (h:zaI nO nT n x=some x'):x'.one=x.one:=by
 cases n with
 | zero=>cases h
 | succ n =>
  cases x <;> simp only [zaI] at h
  all_goals first
   | (cases h; done)
   | (injection h with h; subst h; rfl)
   | (split at h <;> first | (injection h with h; subst h; rfl) | cases h)
   | (simp only [Option.map_eq_some_iff,Option.bind_eq_some_iff] at h; obtain ⟨_,_,rfl⟩:=h; rfl)
   | (simp only [Option.map_eq_some_iff,Option.bind_eq_some_iff] at h; obtain ⟨_,_,_,_,rfl⟩:=h; rfl)
theorem zfh {n:Nat} {x x':GV} (h:zaI nO nT n x=some x'):x'.cells.length=x.cells.length∧∃ m,m≤n∧∀ (j:Nat) c c',x.cells[j]?=some c→x'.cells[j]?=some c'→zaI nO nT m c=some c':=by
 by_cases ha:∃ cs,x=.agg cs
 ·obtain ⟨cs,rfl⟩:=ha
  cases n with
  | zero=>cases h
  | succ n =>
   obtain ⟨cs',h1,rfl⟩:=zs5 h
   obtain ⟨h2,h3⟩:=zcB h1
   exact ⟨h2,n,by omega,h3⟩
 ·have e1:x.cells=[x]:=by
   cases x <;> first | rfl | exact absurd ⟨_,rfl⟩ ha
  have e2:x'.cells=[x']:=by
   have h1:=zlx h
   cases x' <;> first
    | rfl
    | (exfalso
       cases n with
       | zero=>cases h
       | succ n =>
        cases x <;> simp only [zaI] at h
        all_goals first
         | (cases h; done)
         | (split at h <;> cases h; done)
         | (simp only [Option.map_eq_some_iff,Option.bind_eq_some_iff] at h; obtain ⟨_,_,h⟩:=h; cases h; done)
         | (simp only [Option.map_eq_some_iff,Option.bind_eq_some_iff] at h; obtain ⟨_,_,_,_,h⟩:=h; cases h; done)
         | exact ha ⟨_,rfl⟩)
  rw [e1,e2]
  refine ⟨rfl,n,Nat.le_refl _,fun j c c' hc hc'=>?_⟩
  cases j with
  | zero=>simp at hc hc'; subst hc; subst hc'; exact h
  | succ j=>simp at hc
theorem zpO {n:Nat} {x x':GV} (h:zaI nO nT n x=some x') (hf:x.flat=true):x'.flat=true:=by
 obtain ⟨h1,m,_,h2⟩:=zfh h
 simp only [GV.flat,List.all_eq_true] at *
 intro c' hc'
 obtain ⟨j,hj,e⟩:=List.mem_iff_getElem.1 hc'
 have hj':j<x.cells.length:=by omega
 rw [zlx (h2 j x.cells[j] c' (List.getElem?_eq_getElem hj') (by rw [List.getElem?_eq_getElem hj,e]))]
 exact hf _ (List.getElem_mem hj')
theorem zia (r:Restr K K' nO nT):∀ (n:Nat) (g g':GV) (v:Value),zaI nO nT n g=some g'→VR K g v→VR K' g' v:=by
 intro n
 induction n using Nat.strongRecOn with
 | _ n ih =>
 intro g g' v h hv
 cases n with
 | zero=>cases h
 | succ n =>
 have many:∀ {xs xs':List GV} {us:Array Value},xs.mapM (zaI nO nT n)=some xs'→xs.length=us.size→(∀ (i:Nat) x u,xs[i]?=some x→us[i]?=some u→VR K x u) →
  xs'.length=us.size∧∀ (i:Nat) x u,xs'[i]?=some x→us[i]?=some u→VR K' x u:=by
  intro xs xs' us h1 h2 h3
  obtain ⟨h4,h5⟩:=zcB h1
  refine ⟨by omega,fun i x u hx hu=>?_⟩
  have hi:i<xs.length:=by
   have:=(List.getElem?_eq_some_iff.1 hx).1
   omega
  exact ih n (by omega) _ _ _ (h5 i _ x (List.getElem?_eq_getElem hi) hx) (h3 i _ u (List.getElem?_eq_getElem hi) hu)
 cases hv with
 | bool b=>simp only [zaI] at h; injection h with h; subst h; exact .bool b
 | int k n=>simp only [zaI] at h; injection h with h; subst h; exact .int k n
 | str s=>simp only [zaI] at h; injection h with h; subst h; exact .str s
 | nilptr=>simp only [zaI] at h; injection h with h; subst h; exact .nilptr
 | nilsl=>simp only [zaI] at h; injection h with h; subst h; exact .nilsl
 | nilmap=>simp only [zaI] at h; injection h with h; subst h; exact .nilmap
 | nilfunc=>simp only [zaI] at h; injection h with h; subst h; exact .nilfunc
 | niliface=>simp only [zaI] at h; injection h with h; subst h; exact .niliface
 | ptr hid hh =>
  simp only [zaI] at h
  split at h
  ·rename_i hlt; injection h with h; subst h
   exact .ptr (r.obj _ hlt).1 (fun c hc=>hh c ((r.obj _ hlt).2 c hc))
  ·cases h
 | map hid hh =>
  simp only [zaI] at h
  split at h
  ·rename_i hlt; injection h with h; subst h
   exact .map (r.obj _ hlt).1 (fun c hc=>hh c ((r.obj _ hlt).2 c hc))
  ·cases h
 | hsl hid hh hcap hmax =>
  simp only [zaI] at h
  split at h
  ·rename_i hlt; injection h with h; subst h
   exact .hsl (r.obj _ hlt).1 (fun c hc=>by rw [r.κ _ hlt]; exact hh c ((r.obj _ hlt).2 c hc)) hcap hmax
  ·cases h
 | emp a ht =>
  simp only [zaI,Option.map_eq_some_iff,List.mapM_nil] at h
  obtain ⟨xs',h1,rfl⟩:=h
  injection h1 with h1
  subst h1
  refine .emp a ?_
  rcases ht with rfl | rfl
  ·exact .inl rfl
  ·exact .inr rfl
 | @sl sz xs tag b off cap cv hcap hmax hsz hI hv htag =>
  simp only [zaI,Option.map_eq_some_iff] at h
  obtain ⟨xs',h1,rfl⟩:=h
  obtain ⟨h2,h3⟩:=zcB h1
  have old:∀ (i:Nat) x',xs'[i]?=some x'→∃ x,xs[i]?=some x∧zaI nO nT n x=some x':=by
   intro i x' hx'
   have hi:i<xs.length:=by
    have:=(List.getElem?_eq_some_iff.1 hx').1
    omega
   exact ⟨_,List.getElem?_eq_getElem hi,h3 i _ x' (List.getElem?_eq_getElem hi) hx'⟩
  have oldc:∀ (i:Nat) x' (j:Nat) c',xs'[i]?=some x'→x'.cells[j]?=some c'→∃ x c m,xs[i]?=some x∧x.cells[j]?=some c∧m<n+1∧zaI nO nT m c=some c':=by
   intro i x' j c' hx' hc'
   obtain ⟨x,hx,hcl⟩:=old i x' hx'
   obtain ⟨k1,m,k2,k3⟩:=zfh hcl
   have hj:j<x.cells.length:=by
    have:=(List.getElem?_eq_some_iff.1 hc').1
    omega
   exact ⟨x,_,m,hx,List.getElem?_eq_getElem hj,by omega,k3 j _ c' (List.getElem?_eq_getElem hj) hc'⟩
  rw [← h2]
  refine .sl (cv:=cv) (by omega) hmax (fun x' hx'=>?_) (fun i x' j c' hx' hc'=>?_) (fun i x' j c' hx' hc'=>?_) ?_
  ·obtain ⟨i,hi,e⟩:=List.mem_iff_getElem.1 hx'
   obtain ⟨x,hx,hcl⟩:=old i x' (by rw [List.getElem?_eq_getElem hi,e])
   obtain ⟨q1,q2⟩:=hsz x (List.mem_of_getElem? hx)
   exact ⟨(zfh hcl).1.trans q1,zpO hcl q2⟩
  ·obtain ⟨x,c,m,hx,hc,_,_⟩:=oldc i x' j c' hx' hc'
   obtain ⟨q1,q2⟩:=hI i x j c hx hc
   exact ⟨r.imm _ _ q1,by rw [r.w]; exact q2⟩
  ·obtain ⟨x,c,m,hx,hc,hm,hcl⟩:=oldc i x' j c' hx' hc'
   exact ih m hm _ _ _ hcl (hv i x j c hx hc)
  ·rw [h2]
   cases tag with
   | imm=>exact htag
   | exact=>exact htag
   | tok t pos ty =>
    simp only
    split
    ·rename_i htn
     obtain ⟨qN,q1,p,q2,q3,q4⟩:=htag
     refine ⟨by rw [r.N]; exact qN,q1,p,by rw [(r.tok t htn).1]; exact q2,q3,fun e=>?_⟩
     rw [(r.tok t htn).2]
     exact q4 e
    ·trivial
 | func hx hy g1 g2 =>
  simp only [zaI,Option.bind_eq_some_iff,Option.map_eq_some_iff] at h
  obtain ⟨xs',h1,ys',h2,rfl⟩:=h
  obtain ⟨a1,a2⟩:=many h1 hx g1
  obtain ⟨b1,b2⟩:=many h2 hy g2
  exact .func a1 b1 a2 b2
 | iface hg =>
  simp only [zaI,Option.map_eq_some_iff] at h
  obtain ⟨x',h1,rfl⟩:=h
  exact .iface (ih n (by omega) _ _ _ h1 hg)
 | agg hl hg =>
  simp only [zaI,Option.map_eq_some_iff] at h
  obtain ⟨xs',h1,rfl⟩:=h
  obtain ⟨a1,a2⟩:=many h1 hl hg
  exact .agg a1 a2
 | tup hl hg =>
  simp only [zaI,Option.map_eq_some_iff] at h
  obtain ⟨xs',h1,rfl⟩:=h
  obtain ⟨a1,a2⟩:=many h1 hl hg
  exact .tup a1 a2
 | el=>simp only [zaI] at h; cases h
end
def Ctx.back (K0 K:Ctx):Ctx:={ φ:=K0.φ,κ:=K0.κ,τ:=K0.τ,ρ:=K.ρ,w:=K.w,toks:=K0.toks,nO:=K0.nO,N:=K.N }
section
variable {K0 K:Ctx} {H H':GH} {ro:Nat}
theorem HR.guard (hr:HR ro K0 H):HR ro K0 { H with bo:=H.objs.length,bt:=H.toks.length } :=
 { hr with bo:=by show ro≤H.objs.length; rw [hr.nO]; exact hr.roN,bt:=by show H.toks.length≤_; rw [hr.toks]; exact Nat.le_refl _ }
theorem zs6 (hr:HR ro K0 H) (hr':HR ro K H') (x:Ext (fun _=>False) H.objs.length H.toks.length K0 K) :
 HR ro (K0.back K) H∧Ext (fun _=>False) H.bo H.bt K0 (K0.back K)∧Restr K (K0.back K) H.objs.length H.toks.length:=by
 have hφ:∀ id,id<K0.nO→K.φ id=K0.φ id∧∀ b,K0.φ id=some b→K.w.heap[b]?=K0.w.heap[b]?:=fun id h=>x.prot id (by rw [hr.nO]; exact h) h
 have hτ:∀ t,t<K0.toks.length→K.τ t=K0.τ t∧K.toks[t]?=K0.toks[t]?∧∀ ti,K0.τ t=some ti→K.w.heap[ti.b]?=K0.w.heap[ti.b]?:=fun t h=>x.protT t (by rw [hr.toks]; exact h) h
 have himm:∀ b o,Imm K b o→Imm (K0.back K) b o:=by
  intro b o hI
  refine ⟨hI.1,hI.2.1,fun id h=>?_,fun t ti ht e=>?_⟩
  ·have h:K0.φ id=some b:=h
   exact hI.2.2.1 id (by rw [(hφ id (hr.dom id b h).1).1]; exact h)
  ·have ht:K0.τ t=some ti:=ht
   exact hI.2.2.2 t ti (by rw [(hτ t (hr.tok t ti ht).1).1]; exact ht) e
 have ext:Ext (fun _=>False) H.bo H.bt K0 (K0.back K) :=
  { N:=x.N,nO:=Nat.le_refl _,size:=x.size,tape:=x.tape,os:=x.os,output:=x.output,drawn:=x.drawn,
    φ:=fun _ _ _ h=>h,κ:=fun _ _=>rfl,
    imm:=fun b o h=>⟨himm b o (x.imm b o h).1,(x.imm b o h).2⟩,
    loc:=x.loc,below:=x.below,
    tok:=fun t p h=>⟨p,h,Nat.le_refl _,fun _=>rfl⟩,
    prot:=fun id _ h=>⟨rfl,(hφ id h).2⟩,
    protT:=fun t _ h=>⟨rfl,rfl,(hτ t h).2.2⟩ }
 refine ⟨?_,ext,⟨rfl,rfl,fun id h=>⟨by rw [hr.nO] at h; exact h,fun b hb=>by rw [hr.nO] at h; rw [(hφ id h).1]; exact hb⟩,himm,fun t h=>?_,fun id h=>(x.κ id (by rw [hr.nO] at h; exact h)).symm⟩⟩
 ·exact
   { nO:=hr.nO,toks:=hr.toks,bo:=hr.bo,bt:=hr.bt,
     obj:=by
      intro id o ho
      have hid:id<K0.nO:=by rw [← hr.nO]; exact (List.getElem?_eq_some_iff.1 ho).1
      have:=hr.obj id o ho
      cases o with
      | cells t cs =>
       obtain ⟨b,vs,elem,fr,h1,h2,h3,h4,h5⟩:=this
       exact ⟨b,vs,elem,fr,h1,((hφ id hid).2 b h1).trans h2,h3,h4,fun i c v hc hv=>(h5 i c v hc hv).ext ext⟩
      | row t cs =>
       obtain ⟨hidn,hro,b,vs,h1,h2,h3,h4,h5⟩:=this
       exact ⟨hidn,hro,b,vs,h1,((hφ id hid).2 b h1).trans h2,h3,h4,fun i c v hc hv=>(h5 i c v hc hv).ext ext⟩
      | map ag ls es =>
       obtain ⟨hw,b,ents,clock,h1,h2,h3,es',h4,h5,h6⟩:=this
       exact ⟨hw,b,ents,clock,h1,((hφ id hid).2 b h1).trans h2,h3,es',h4,h5,fun i p m hp hm=>⟨(h6 i p m hp hm).1.ext ext,(h6 i p m hp hm).2.ext ext⟩⟩
      | dead=>trivial
     inj:=hr.inj
     dom:=by
      intro id b h
      obtain ⟨h1,h2,h3,h4⟩:=hr.dom id b h
      obtain ⟨g1,g2,g3,g4⟩:=hr'.dom id b (by rw [(hφ id h1).1]; exact h)
      exact ⟨h1,g2,g3,g4⟩
     glob:=hr.glob,roN:=hr.roN
     tok:=by
      intro t ti ht
      have ht':K0.τ t=some ti:=ht
      obtain ⟨h1,h2,h3,h4,h5,h6⟩:=hr.tok t ti ht'
      obtain ⟨g1,g2,g3,g4,g5,g6⟩:=hr'.tok t ti (by rw [(hτ t h1).1]; exact ht')
      exact ⟨h1,g2,g3,g4,h5,g6⟩
     tinj:=hr.tinj,size:=hr'.size,loc:=hr'.loc,dat:=hr.to x.N x.below }
 ·have h':t<K0.toks.length:=by rw [← hr.toks]; exact h
  exact ⟨((hτ t h').2.1).symm,((hτ t h').1).symm⟩
end
theorem zly {K K':Ctx} : ∀ (n:Nat) (g:GV) (v:Value),plain n g=true→VR K g v→VR K' g v:=by
 intro n
 induction n with
 | zero=>intro g v h; cases h
 | succ n ih =>
  intro g v h hv
  have many:∀ {xs:List GV} {us:Array Value},xs.all (plain n)=true→(∀ (i:Nat) x u,xs[i]?=some x→us[i]?=some u→VR K x u)→∀ (i:Nat) x u,xs[i]?=some x→us[i]?=some u→VR K' x u:=by
   intro xs us h1 h2 i x u hx hu
   rw [List.all_eq_true] at h1
   exact ih x u (h1 x (List.mem_of_getElem? hx)) (h2 i x u hx hu)
  cases hv with
  | bool b=>exact .bool b
  | int k n=>exact .int k n
  | str s=>exact .str s
  | nilptr=>exact .nilptr
  | nilsl=>exact .nilsl
  | nilmap=>exact .nilmap
  | nilfunc=>exact .nilfunc
  | niliface=>exact .niliface
  | func hx hy g1 g2 =>
   simp only [plain,Bool.and_eq_true] at h
   exact .func hx hy (many h.1 g1) (many h.2 g2)
  | iface hg=>simp only [plain] at h; exact .iface (ih _ _ h hg)
  | agg hl hg=>simp only [plain] at h; exact .agg hl (many h hg)
  | tup hl hg=>simp only [plain] at h; exact .tup hl (many h hg)
  | ptr=>simp [plain] at h
  | sl=>simp [plain] at h
  | emp=>simp [plain] at h
  | hsl=>simp [plain] at h
  | map=>simp [plain] at h
  | el=>simp [plain] at h
def Ctx.iso (ro:Nat) (K:Ctx):Ctx:={ φ:=fun _=>none,κ:=fun _=>0,τ:=fun _=>none,ρ:=fun b=>K.N≤b∧b<K.w.heap.size,w:=K.w,toks:=[],nO:=ro,N:=K.N }
def zl3 (ro:Nat):GH:={ objs:=List.replicate ro .dead,toks:=[],bo:=ro,bt:=0 }
section
variable {K K1:Ctx} {H H':GH} {ro:Nat}
theorem HR.iso (hr:HR ro K H):HR ro (K.iso ro) (zl3 ro) :=
 { nO:=by simp [zl3,Ctx.iso],toks:=rfl,bo:=Nat.le_refl _,bt:=Nat.le_refl _,
   obj:=by
    intro id o ho
    have:o=.dead:=by
     simp only [zl3,List.getElem?_replicate] at ho
     split at ho
     ·injection ho with ho; exact ho.symm
     ·cases ho
    subst this
    trivial
   inj:=fun _ _ _ h=>by cases h
   dom:=fun _ _ h=>by cases h
   glob:=fun _ _ _ h=>by cases h
   roN:=Nat.le_refl _
   tok:=fun _ _ h=>by cases h
   tinj:=fun _ _ _ _ h=>by cases h
   size:=hr.size
   loc:=fun _ h=>h
   dat:=hr.dat }
theorem zAS (hr:HR ro K H) (x:Ext (fun _=>False) ro 0 (K.iso ro) K1):HR ro { K with w:=K1.w } H∧Ext (fun _=>False) H.bo H.bt K { K with w:=K1.w }:=by
 have old:∀ b,b<K.w.heap.size→K1.w.heap[b]?=K.w.heap[b]?:=by
  intro b hb
  by_cases h:K.N≤b
  ·exact (x.loc b ⟨h,hb⟩).2 (fun h=>h)
  ·exact x.below b (Nat.not_le.1 h)
 have hcell:∀ b o,b<K.w.heap.size→K1.w.cell? ⟨b,o,none⟩=K.w.cell? ⟨b,o,none⟩:=by
  intro b o hb
  simp [World.cell?,old b hb]
 have ext:Ext (fun _=>False) H.bo H.bt K { K with w:=K1.w } :=
  { N:=rfl,nO:=Nat.le_refl _,size:=x.size,tape:=x.tape,os:=x.os,output:=x.output,drawn:=x.drawn,φ:=fun _ _ _ h=>h,κ:=fun _ _=>rfl,
    imm:=fun b o h=>⟨⟨Nat.lt_of_lt_of_le h.1 x.size,h.2.1,h.2.2.1,h.2.2.2⟩,hcell b o h.1⟩,
    loc:=fun b h=>⟨h,fun _=>old b (hr.loc b h).2⟩,
    below:=fun b h=>old b (Nat.lt_of_lt_of_le h hr.size),
    tok:=fun _ p h=>⟨p,h,Nat.le_refl _,fun _=>rfl⟩,
    prot:=fun id _ _=>⟨rfl,fun b h=>old b (hr.dom id b h).2.1⟩,
    protT:=fun t _ _=>⟨rfl,rfl,fun ti h=>old ti.b (hr.tok t ti h).2.1⟩ }
 refine ⟨?_,ext⟩
 exact
  { nO:=hr.nO,toks:=hr.toks,bo:=hr.bo,bt:=hr.bt,
    obj:=by
     intro id o ho
     have:=hr.obj id o ho
     cases o with
     | cells t cs =>
      obtain ⟨b,vs,elem,fr,h1,h2,h3,h4,h5⟩:=this
      exact ⟨b,vs,elem,fr,h1,(old b (hr.dom id b h1).2.1).trans h2,h3,h4,fun i c v hc hv=>(h5 i c v hc hv).ext ext⟩
     | row t cs =>
      obtain ⟨hidn,hro,b,vs,h1,h2,h3,h4,h5⟩:=this
      exact ⟨hidn,hro,b,vs,h1,(old b (hr.dom id b h1).2.1).trans h2,h3,h4,fun i c v hc hv=>(h5 i c v hc hv).ext ext⟩
     | map ag ls es =>
      obtain ⟨hw,b,ents,clock,h1,h2,h3,es',h4,h5,h6⟩:=this
      exact ⟨hw,b,ents,clock,h1,(old b (hr.dom id b h1).2.1).trans h2,h3,es',h4,h5,fun i p m hp hm=>⟨(h6 i p m hp hm).1.ext ext,(h6 i p m hp hm).2.ext ext⟩⟩
     | dead=>trivial
    inj:=hr.inj
    dom:=by
     intro id b h
     obtain ⟨h1,h2,h3,h4⟩:=hr.dom id b h
     exact ⟨h1,Nat.lt_of_lt_of_le h2 x.size,h3,h4⟩
    glob:=hr.glob,roN:=hr.roN
    tok:=by
     intro t ti h
     obtain ⟨h1,h2,h3,h4,h5,cur,lo,hi,h6,h7⟩:=hr.tok t ti h
     exact ⟨h1,Nat.lt_of_lt_of_le h2 x.size,h3,h4,h5,cur,lo,hi,(old ti.b h2).trans h6,h7⟩
    tinj:=hr.tinj
    size:=Nat.le_trans hr.size x.size
    loc:=fun b h=>⟨(hr.loc b h).1,Nat.lt_of_lt_of_le (hr.loc b h).2 x.size⟩
    dat:=hr.to rfl (fun b h=>old b (Nat.lt_of_lt_of_le h hr.size)) }
end
end Go.Sh
namespace Go.Sh
def zib (call call':Nat→List GV→GH→Option (GV × GH)):Prop:=∀ f args H r,call f args H=some r→call' f args H=some r
section
variable {call call':Nat→List GV→GH→Option (GV × GH)} {T:Nat→Option IFun}
theorem zic {α β:Type} {x y:Option α} (h:∀ r,x=some r→y=some r) {f:α→β} {r:β} (hr:x.map f=some r):y.map f=some r:=by
 simp only [Option.map_eq_some_iff] at *
 obtain ⟨a,h1,h2⟩:=hr
 exact ⟨a,h a h1,h2⟩
theorem zs7 (h:zib call call') {p:Prim} {args:List GV} {e:Env} {H:GH} {f:Eff} (hf:zao call p args e H=some f):zao call' p args e H=some f:=by
 cases p
 case call g =>
  simp only [zao] at hf ⊢
  split at hf
  ·rename_i hok; rw [if_pos hok]; exact zic (h _ _ _) hf
  ·cases hf
 case callP g =>
  simp only [zao] at hf ⊢
  split at hf
  ·rename_i hok; rw [if_pos hok]; exact zic (h _ _ _) hf
  ·cases hf
 case callv =>
  simp only [zao] at hf ⊢
  split at hf
  ·split at hf
   ·rename_i hok; simp only [hok,if_true]; exact zic (h _ _ _) hf
   ·cases hf
  ·cases hf
 all_goals exact hf
theorem zn8 (h:zib call call') {o:IOp} {s s':St} (hf:gop call o s=some s'):gop call' o s=some s':=by
 unfold gop at *
 cases hg:zbm s.e o.guard with
 | none=>simp only [hg] at hf; cases hf
 | some b =>
  cases b with
  | false=>simp only [hg] at hf ⊢; exact hf
  | true =>
   simp only [hg] at hf ⊢
   split at hf
   ·rename_i hok; rw [if_pos hok]; exact zic (fun r=>zs7 h) hf
   ·cases hf
theorem zdn (h:zib call call'):∀ (l:List IOp) {s s':St},zbC call l s=some s'→zbC call' l s=some s'
 | [],s,s',hf=>hf
 | o::l,s,s',hf=>by
  simp only [zbC,Option.bind_eq_some_iff] at *
  obtain ⟨s1,h1,h2⟩:=hf
  exact ⟨s1,zn8 h h1,zdn h l h2⟩
theorem zgC:∀ n,(∀ c s r,zak T n c s=some r→zak T (n+1) c s=some r)∧zib (zbw T n) (zbw T (n+1)):=by
 intro n
 induction n with
 | zero=>exact ⟨fun c s r h=>by simp [zak] at h,fun f args H r h=>by simp [zbw] at h⟩
 | succ n ih =>
  obtain ⟨ih1,ih2⟩:=ih
  refine ⟨fun c s r h=>?_,fun f args H r h=>?_⟩
  ·cases c with
   | skip=>exact h
   | exit=>exact h
   | ret=>exact h
   | bump k=>exact h
   | trap=>simp [zak] at h
   | region ops=>simp only [zak] at h ⊢; exact zic (fun r=>zdn ih2 ops) h
   | seq a b =>
    simp only [zak] at h
    split at h
    ·rename_i s1 h1
     rw [zak,ih1 _ _ _ h1]
     exact ih1 _ _ _ h
    ·rename_i hne
     rw [zak,ih1 _ _ _ h]
     split
     ·rename_i s1 h1
      injection h1 with h1
      subst h1
      exact absurd h (hne s1)
     ·rfl
   | cond c a b =>
    simp only [zak] at h ⊢
    split at h
    ·exact ih1 _ _ _ h
    ·exact ih1 _ _ _ h
    ·cases h
   | block id a =>
    simp only [zak] at h
    split at h
    ·rename_i id' s1 h1
     rw [zak,ih1 _ _ _ h1]
     exact h
    ·rename_i hne
     rw [zak,ih1 _ _ _ h]
     split
     ·rename_i id' s1 h1
      injection h1 with h1
      subst h1
      exact absurd h (hne id' s1)
     ·rfl
   | loop a =>
    simp only [zak] at h
    split at h
    ·rename_i s1 h1
     rw [zak,ih1 _ _ _ h1]
     exact ih1 _ _ _ h
    ·rename_i hne
     rw [zak,ih1 _ _ _ h]
     split
     ·rename_i s1 h1
      injection h1 with h1
      subst h1
      exact absurd h (hne s1)
     ·rfl
  ·simp only [zbw] at h
   cases hF:T f with
   | none=>simp [hF] at h
   | some F =>
    simp only [hF] at h
    rw [zbw]
    simp only [hF]
    split at h
    ·cases h
    ·rename_i hlen
     rw [if_neg hlen]
     split at h
     ·rename_i hl
      rw [if_pos hl]
      exact h
     rename_i hl
     rw [if_neg hl]
     split at h
     ·rename_i hp
      rw [if_pos hp]
      split at h
      ·rename_i s1 h1; rw [ih1 _ _ _ h1]; exact h
      ·rename_i s1 h1; rw [ih1 _ _ _ h1]; exact h
      ·cases h
     rename_i hp
     rw [if_neg hp]
     split at h
     ·rename_i hp2
      rw [if_pos hp2]
      split at h
      ·rename_i hpl
       rw [if_pos hpl]
       split at h
       ·rename_i s1 h1; rw [ih1 _ _ _ h1]; exact h
       ·rename_i s1 h1; rw [ih1 _ _ _ h1]; exact h
       ·cases h
      ·cases h
     ·rename_i hp2
      rw [if_neg hp2]
      split at h
      ·rename_i s1 h1; rw [ih1 _ _ _ h1]; exact h
      ·rename_i s1 h1; rw [ih1 _ _ _ h1]; exact h
      ·cases h
theorem zdo {n m:Nat} (h:n≤m) {c:ICode} {s:St} {r:GExit × St} (hr:zak T n c s=some r):zak T m c s=some r:=by
 induction h with
 | refl=>exact hr
 | step _ ih=>exact (zgC _).1 _ _ _ ih
theorem zel {n m:Nat} (h:n≤m):zib (zbw T n) (zbw T m):=by
 induction h with
 | refl=>exact fun _ _ _ _ h=>h
 | step _ ih=>exact fun f args H r hr=>(zgC _).2 _ _ _ _ (ih f args H r hr)
end
variable [Facts]
def GExit.to:GExit→Exit
 | .normal=>.normal
 | .exit id=>.exit id
 | .ret=>.ret
def MildOk (T:Nat→Option IFun) (hp:List Nat):Prop:=∀ f,hp.contains (f+2097152)=true→∀ F,T f=some F→F.mode=1∨F.mode=2∨(10≤F.mode∧F.mode<20)
def zcO (P:Program) (f:FuncId) (F:IFun):Prop :=
 ∀ args H v H',ziz F args H=some (v,H')→oks args=true→∀ K us,HR P.globals.size K H→CR K args us→zlt P P.globals.size K H f us v H'
theorem zlz {F:IFun} {args:List GV} {H H':GH} {v:GV} (hm:F.mode<20) (h:ziz F args H=some (v,H')):H'=H:=by
 unfold ziz at h
 rw [if_pos hm] at h
 simp only [Option.map_eq_some_iff,Prod.mk.injEq] at h
 obtain ⟨_,_,_,rfl⟩:=h
 rfl
theorem zs8 {F:IFun} {args:List GV} {H H':GH} {v:GV} (h:ziz F args H=some (v,H')):H'.bo=H.bo∧H'.bt=H.bt:=by
 by_cases hm:F.mode<20
 ·rw [zlz hm h]; exact ⟨rfl,rfl⟩
 ·unfold ziz at h
  rw [if_neg hm] at h
  unfold zw8 at h
  split at h
  ·unfold zsy at h
   split at h
   ·split at h
    ·split at h
     ·injection h with h; injection h with _ h; subst h; exact ⟨rfl,rfl⟩
     ·cases h
    ·split at h
     ·injection h with h; injection h with _ h; subst h; exact ⟨rfl,rfl⟩
     ·cases h
    ·cases h
   ·cases h
  ·simp only [Option.bind_eq_some_iff] at h
   obtain ⟨r,_,h⟩:=h
   split at h
   ·rename_i hk
    injection h with h; subst h; exact hk
   ·cases h
  ·cases h
def zcq (P:Program) (T:Nat→Option IFun):Prop:=∀ f F,T f=some F→(10≤F.mode∧zcO P f F)∨(F.mode<10∧∃ hp,MildOk T hp∧zbi P hp F.mode f=some F)
theorem MildOk.calls {T:Nat→Option IFun} {hp:List Nat} (h:MildOk T hp) (n:Nat):zcG hp (zbw T n):=by
 intro f hf args H v H' hg
 cases n with
 | zero=>simp [zbw] at hg
 | succ n =>
  simp only [zbw] at hg
  cases hF:T f with
  | none=>simp [hF] at hg
  | some F =>
   simp only [hF] at hg
   split at hg
   ·cases hg
   split at hg
   ·rename_i hl
    rcases h f hf F hF with h1 | h1 | h1
    ·omega
    ·omega
    ·exact zlz h1.2 hg
   rename_i hl
   split at hg
   ·split at hg
    ·simp only [Option.bind_eq_some_iff,Option.map_eq_some_iff,Prod.mk.injEq] at hg
     obtain ⟨_,_,_,_,_,rfl⟩:=hg
     rfl
    ·simp only [Option.bind_eq_some_iff,Option.map_eq_some_iff,Prod.mk.injEq] at hg
     obtain ⟨_,_,_,_,_,rfl⟩:=hg
     rfl
    ·cases hg
   ·rename_i h1
    rw [if_pos (((h f hf F hF).resolve_left h1).resolve_right (fun h=>hl h.1))] at hg
    split at hg
    ·split at hg
     ·simp only [Option.bind_eq_some_iff] at hg
      obtain ⟨v0,_,hg⟩:=hg
      split at hg
      ·injection hg with hg; injection hg with _ hg; exact hg.symm
      ·cases hg
     ·simp only [Option.bind_eq_some_iff] at hg
      obtain ⟨v0,_,hg⟩:=hg
      split at hg
      ·injection hg with hg; injection hg with _ hg; exact hg.symm
      ·cases hg
     ·cases hg
    ·cases hg
theorem zv3 {call:Nat→List GV→GH→Option (GV × GH)} (hk:zbr call) {o:IOp} {s s':St} (h:gop call o s=some s'):s'.H.bo=s.H.bo∧s'.H.bt=s.H.bt:=by
 unfold gop at h
 split at h
 ·cases h
 ·injection h with h; subst h; exact ⟨rfl,rfl⟩
 ·split at h
  case isFalse=>cases h
  simp only [Option.map_eq_some_iff] at h
  obtain ⟨f,hf,rfl⟩:=h
  obtain ⟨h1,h2,_⟩:=zh4 hk hf
  exact ⟨h1,h2⟩
theorem zlA {call:Nat→List GV→GH→Option (GV × GH)} (hk:zbr call):∀ (l:List IOp) (s s':St),zbC call l s=some s'→s'.H.bo=s.H.bo∧s'.H.bt=s.H.bt
 | [],s,s',h=>by simp only [zbC,Option.some.injEq] at h; subst h; exact ⟨rfl,rfl⟩
 | o::l,s,s',h=>by
  simp only [zbC,Option.bind_eq_some_iff] at h
  obtain ⟨s1,h1,h2⟩:=h
  obtain ⟨a,b⟩:=zv3 hk h1
  obtain ⟨c,d⟩:=zlA hk l s1 s' h2
  exact ⟨c.trans a,d.trans b⟩
theorem zfY (T:Nat→Option IFun):∀ n,(∀ c s r s',zak T n c s=some (r,s')→s'.H.bo=s.H.bo∧s'.H.bt=s.H.bt)∧zbr (zbw T n):=by
 intro n
 induction n with
 | zero=>exact ⟨fun c s r s' h=>by simp [zak] at h,fun f args H v H' h=>by simp [zbw] at h⟩
 | succ n ih =>
  obtain ⟨ih1,ih2⟩:=ih
  refine ⟨fun c s r s' h=>?_,fun f args H v H' h=>?_⟩
  ·cases c with
   | skip=>simp only [zak,Option.some.injEq,Prod.mk.injEq] at h; obtain ⟨_,rfl⟩:=h; exact ⟨rfl,rfl⟩
   | exit=>simp only [zak,Option.some.injEq,Prod.mk.injEq] at h; obtain ⟨_,rfl⟩:=h; exact ⟨rfl,rfl⟩
   | bump=>simp only [zak,Option.some.injEq,Prod.mk.injEq] at h; obtain ⟨_,rfl⟩:=h; exact ⟨rfl,rfl⟩
   | ret=>simp only [zak,Option.some.injEq,Prod.mk.injEq] at h; obtain ⟨_,rfl⟩:=h; exact ⟨rfl,rfl⟩
   | trap=>simp [zak] at h
   | region ops =>
    simp only [zak,Option.map_eq_some_iff,Prod.mk.injEq] at h
    obtain ⟨s1,h1,_,rfl⟩:=h
    exact zlA ih2 _ _ _ h1
   | seq a b =>
    simp only [zak] at h
    split at h
    ·rename_i s1 h1
     obtain ⟨a1,a2⟩:=ih1 _ _ _ _ h1
     obtain ⟨b1,b2⟩:=ih1 _ _ _ _ h
     exact ⟨b1.trans a1,b2.trans a2⟩
    ·exact ih1 _ _ _ _ h
   | cond c a b =>
    simp only [zak] at h
    split at h
    ·exact ih1 _ _ _ _ h
    ·exact ih1 _ _ _ _ h
    ·cases h
   | block id a =>
    simp only [zak] at h
    split at h
    ·rename_i id' s1 h1
     split at h <;> (injection h with h; injection h with _ h; subst h; exact ih1 _ _ _ _ h1)
    ·exact ih1 _ _ _ _ h
   | loop a =>
    simp only [zak] at h
    split at h
    ·rename_i s1 h1
     obtain ⟨a1,a2⟩:=ih1 _ _ _ _ h1
     obtain ⟨b1,b2⟩:=ih1 _ _ _ _ h
     exact ⟨b1.trans a1,b2.trans a2⟩
    ·exact ih1 _ _ _ _ h
  ·simp only [zbw] at h
   split at h
   ·cases h
   ·rename_i F hF
    by_cases hlen:F.nt<args.length
    ·rw [if_pos hlen] at h; cases h
    rw [if_neg hlen] at h
    split at h
    ·exact zs8 h
    split at h
    ·split at h
     ·simp only [Option.bind_eq_some_iff,Option.map_eq_some_iff,Prod.mk.injEq] at h
      obtain ⟨_,_,_,_,_,rfl⟩:=h
      exact ⟨rfl,rfl⟩
     ·simp only [Option.bind_eq_some_iff,Option.map_eq_some_iff,Prod.mk.injEq] at h
      obtain ⟨_,_,_,_,_,rfl⟩:=h
      exact ⟨rfl,rfl⟩
     ·cases h
    split at h
    ·split at h
     ·split at h
      ·simp only [Option.bind_eq_some_iff] at h
       obtain ⟨v0,_,h⟩:=h
       split at h
       ·injection h with h; injection h with _ h; subst h; exact ⟨rfl,rfl⟩
       ·cases h
      ·simp only [Option.bind_eq_some_iff] at h
       obtain ⟨v0,_,h⟩:=h
       split at h
       ·injection h with h; injection h with _ h; subst h; exact ⟨rfl,rfl⟩
       ·cases h
      ·cases h
     ·cases h
    ·split at h
     ·rename_i s1 h1
      simp only [Option.map_eq_some_iff,Prod.mk.injEq] at h
      obtain ⟨_,_,_,rfl⟩:=h
      exact ih1 _ _ _ _ h1
     ·rename_i s1 h1
      simp only [Option.map_eq_some_iff,Prod.mk.injEq] at h
      obtain ⟨_,_,_,rfl⟩:=h
      exact ih1 _ _ _ _ h1
     ·cases h
def zem (P:Program) (ro:Nat) (T:Nat→Option IFun) (n:Nat):Prop :=
 ∀ (K0:Ctx) (H0:GH) (hp:List Nat) (nt:Nat) (c:Code) (ic:ICode) (s:St) (r:GExit) (s':St) (a:Act) (w:World) (Q:Exit→Act→World→Prop),
  MildOk T hp→(∀ b,K0.ρ b→b<K0.w.heap.size)→zd0 P ro hp nt c=some ic→zak T n ic s=some (r,s')→SimS ro K0 H0 nt s a w→(∀ a' w',SimS ro K0 H0 nt s' a' w'→Q r.to a' w')→c.wp P Q a w
def zfZ (P:Program) (ro:Nat) (T:Nat→Option IFun) (n:Nat):Prop :=
 ∀ (K0:Ctx) (H0:GH) (hp:List Nat) (nt:Nat) (c:Code) (ic:ICode) (s:St) (r:GExit) (s':St) (a:Act) (w:World) (Q:Exit→Act→World→Prop),
  MildOk T hp→(∀ b,K0.ρ b→b<K0.w.heap.size)→zd0 P ro hp nt c=some ic→zak T n (.loop ic) s=some (r,s')→SimS ro K0 H0 nt s a w→(∀ a' w',SimS ro K0 H0 nt s' a' w'→Q r.to a' w')→Code.rounds P c Q n a w
theorem zm2 {next:Act→World→Prop} {Q:Exit→Act→World→Prop} {r:GExit} (h:r≠.normal) {a:Act} {w:World} (hq:Q r.to a w):Exit.then next Q r.to a w:=by
 cases r with
 | normal=>exact absurd rfl h
 | exit id=>exact hq
 | ret=>exact hq
section
variable {P:Program} {T:Nat→Option IFun} {n:Nat}
theorem zs9 (hm:P.follows .mixedOrders=true) (hcall:zbe P P.globals.size (zbw T n)) (he:zem P P.globals.size T n) (hl:zfZ P P.globals.size T n):zem P P.globals.size T (n+1):=by
 intro K0 H0 hp nt c ic s r s' a w Q hpu hρ hc hg hs hq
 cases c <;> simp only [zd0] at hc <;> try (cases hc; done)
 case skip =>
  injection hc with hc; subst hc
  simp only [zak,Option.some.injEq,Prod.mk.injEq] at hg
  obtain ⟨rfl,rfl⟩:=hg
  exact wp_skip (hq _ _ hs)
 case label l =>
  injection hc with hc; subst hc
  simp only [zak,Option.some.injEq,Prod.mk.injEq] at hg
  obtain ⟨rfl,rfl⟩:=hg
  exact wp_label (hq _ _ hs)
 case exit id =>
  injection hc with hc; subst hc
  simp only [zak,Option.some.injEq,Prod.mk.injEq] at hg
  obtain ⟨rfl,rfl⟩:=hg
  exact wp_exit (hq _ _ hs)
 case ret =>
  injection hc with hc; subst hc
  simp only [zak,Option.some.injEq,Prod.mk.injEq] at hg
  obtain ⟨rfl,rfl⟩:=hg
  exact wp_ret (hq _ _ hs)
 case refuse =>
  injection hc with hc; subst hc
  simp [zak] at hg
 case region id ops d =>
  cases d with
  | true =>
   simp only [if_true] at hc
   split at hc
   ·rename_i rr h1
    injection hc with hc; subst hc
    obtain ⟨ios,k⟩:=rr
    unfold drawn at hg
    split at hg
    ·rename_i hk0
     simp only at hk0
     subst hk0
     simp only [zak,Option.map_eq_some_iff,Prod.mk.injEq] at hg
     obtain ⟨s1,h2,rfl,rfl⟩:=hg
     exact zlw hm hcall.1 (hpu.calls n) hcall (zfY T n).2 hρ hq h1 h2 hs
    ·cases n with
     | zero=>simp [zak] at hg
     | succ m =>
      simp only [zak] at hg
      cases h2:zbC (zbw T m) ios s with
      | none=>simp [h2] at hg
      | some s1 =>
       simp only [h2,Option.map_some,Option.some.injEq,Prod.mk.injEq] at hg
       obtain ⟨rfl,rfl⟩:=hg
       exact zlw hm hcall.1 (hpu.calls (m+1)) hcall (zfY T (m+1)).2 hρ hq h1 (zdn (zgC m).2 ios h2) hs
   ·injection hc with hc; subst hc
    simp [zak] at hg
  | false =>
   simp only [Bool.false_eq_true,if_false,Option.map_eq_some_iff] at hc
   obtain ⟨ios,h1,rfl⟩:=hc
   simp only [zak,Option.map_eq_some_iff,Prod.mk.injEq] at hg
   obtain ⟨s1,h2,rfl,rfl⟩:=hg
   exact zpL hcall (zfY T n).2 hρ hq h1 h2 hs
 case seq x y =>
  split at hc
  ·rename_i ix iy hx hy
   injection hc with hc; subst hc
   simp only [zak] at hg
   split at hg
   ·rename_i s1 h1
    exact wp_seq (he K0 H0 hp nt x ix s _ s1 a w _ hpu hρ hx h1 hs (fun a' w' hs'=>he K0 H0 hp nt y iy s1 r s' a' w' Q hpu hρ hy hg hs' hq))
   ·rename_i hne
    exact wp_seq (he K0 H0 hp nt x ix s r s' a w _ hpu hρ hx hg hs (fun a' w' hs'=>zm2 (fun e=>by subst e; exact hne _ hg) (hq a' w' hs')))
  ·cases hc
 case cond x y z =>
  split at hc
  ·rename_i sc iy iz hx hy hz
   injection hc with hc; subst hc
   have hv:∀ b,zac s.e sc=.bool b→a.eval x=.bool b:=by
    intro b hb
    obtain ⟨K,lam,hs⟩:=hs
    have:=(zaa hs.hr hs.fr hx).1
    rw [hb] at this
    cases hq:a.eval x <;> rw [hq] at this <;> cases this
    rfl
   simp only [zak] at hg
   split at hg
   ·rename_i hb
    exact wp_cond_true (hv _ hb) (he K0 H0 hp nt y iy s r s' a w Q hpu hρ hy hg hs hq)
   ·rename_i hb
    exact wp_cond_false (hv _ hb) (he K0 H0 hp nt z iz s r s' a w Q hpu hρ hz hg hs hq)
   ·cases hg
  ·cases hc
 case block id x =>
  simp only [Option.map_eq_some_iff] at hc
  obtain ⟨ix,hx,rfl⟩:=hc
  simp only [zak] at hg
  refine wp_block ?_
  split at hg
  ·rename_i id' s1 h1
   refine he K0 H0 hp nt x ix s _ s1 a w _ hpu hρ hx h1 hs (fun a' w' hs'=>?_)
   simp only [GExit.to,Exit.inBlock]
   split at hg
   ·rename_i e
    rw [if_pos e]
    simp only [Option.some.injEq,Prod.mk.injEq] at hg
    obtain ⟨rfl,rfl⟩:=hg
    exact hq a' w' hs'
   ·rename_i e
    rw [if_neg e]
    simp only [Option.some.injEq,Prod.mk.injEq] at hg
    obtain ⟨rfl,rfl⟩:=hg
    exact hq a' w' hs'
  ·rename_i hne
   refine he K0 H0 hp nt x ix s r s' a w _ hpu hρ hx hg hs (fun a' w' hs'=>?_)
   have:=hq a' w' hs'
   cases r with
   | normal=>exact this
   | exit id'=>exact absurd hg (hne id' s')
   | ret=>exact this
 case loop x =>
  simp only [Option.map_eq_some_iff] at hc
  obtain ⟨ix,hx,rfl⟩:=hc
  refine wp_loop_rounds (n+1) ?_
  rw [rounds_succ]
  simp only [zak] at hg
  split at hg
  ·rename_i s1 h1
   exact he K0 H0 hp nt x ix s _ s1 a w _ hpu hρ hx h1 hs (fun a' w' hs'=>hl K0 H0 hp nt x ix s1 r s' a' w' Q hpu hρ hx hg hs' hq)
  ·rename_i hne
   exact he K0 H0 hp nt x ix s r s' a w _ hpu hρ hx hg hs (fun a' w' hs'=>zm2 (fun e=>by subst e; exact hne _ hg) (hq a' w' hs'))
theorem zta (he:zem P P.globals.size T n) (hl:zfZ P P.globals.size T n):zfZ P P.globals.size T (n+1):=by
 intro K0 H0 hp nt x ix s r s' a w Q hpu hρ hx hg hs hq
 rw [rounds_succ]
 simp only [zak] at hg
 split at hg
 ·rename_i s1 h1
  exact he K0 H0 hp nt x ix s _ s1 a w _ hpu hρ hx h1 hs (fun a' w' hs'=>hl K0 H0 hp nt x ix s1 r s' a' w' Q hpu hρ hx hg hs' hq)
 ·rename_i hne
  exact he K0 H0 hp nt x ix s r s' a w _ hpu hρ hx hg hs (fun a' w' hs'=>zm2 (fun e=>by subst e; exact hne _ hg) (hq a' w' hs'))
theorem zlB (args:List GV) (t:Nat):zag args t=(args[t]?).getD .junk:=by simp [zag,List.getD_eq_getElem?_getD]
theorem Sim.enter {ro:Nat} {K0:Ctx} {H H0:GH} {args:List GV} {us:Array Value} {nt:Nat} (hr:HR ro K0 H) (hb:H.bo=H0.bo∧H.bt=H0.bt) (hok:oks args=true) (hc:CR K0 args us) (hn:us.size≤nt) :
 Sim ro K0 H0 nt { e:={ s:=args,gen:=0 },H:=H } { tmps:=us++Array.replicate (nt - us.size) undef,defers:=[] } K0.w K0 (fun _=>none):=by
 refine ⟨rfl,hr,⟨by simp; omega,rfl,fun t=>?_,fun n b h=>(by cases h),fun n n' b h=>(by cases h),fun n _=>rfl,fun t t' n h=>?_⟩,Ext.refl _ _ _ _,fun n b h=>(by cases h),hb.1,hb.2⟩
 ·show SR K0 _ (zag args t) _
  rw [zlB]
  cases ht:args[t]? with
  | none=>trivial
  | some x =>
   have hlt:t<us.size:=by rw [← hc.1]; exact (List.getElem?_eq_some_iff.1 ht).1
   have e:(us++Array.replicate (nt - us.size) undef).getD t undef=us[t]:=by
    simp [Array.getElem?_append_left hlt,Array.getElem?_eq_getElem hlt]
   rw [e]
   exact SR.of (hc.2 t x us[t] ht (Array.getElem?_eq_getElem hlt))
 ·exfalso
  have h:zdE (zag args t) n:=h
  rw [zlB] at h
  cases ht:args[t]? with
  | none=>rw [ht] at h; exact h
  | some x =>
   rw [ht] at h
   exact zai (zfc hok ht) n h
end
section
variable {P:Program} {T:Nat→Option IFun} {n:Nat}
theorem zn9 {hp:List Nat} {p:Nat} {f:Nat} {F:IFun} (h:zbi P hp p f=some F) :
 ∃ fn c,P.funcs[f]?=some fn∧fn.body=some c∧(fn.name == "runtime.NumGoroutine")=false∧zd0 P P.globals.size hp fn.ntmps c=some F.body∧fn.results.toList.mapM (zxa P)=some F.results∧F.nt=fn.ntmps∧F.ro=P.globals.size:=by
 unfold zbi at h
 split at h
 ·cases h
 ·rename_i fn hf
  split at h
  ·cases h
  ·rename_i c hb
   split at h
   ·cases h
   ·rename_i hname
    split at h
    ·rename_i b r h1 h2
     injection h with h
     subst h
     exact ⟨fn,c,hf,hb,by simpa using hname,h1,h2,rfl,rfl⟩
    ·cases h
theorem zid {f:FuncId} {fn:Func} {c:Code} (hf:P.funcs[f]?=some fn) (hname:(fn.name == "runtime.NumGoroutine")=false) (hb:fn.body=some c) (args:Array Value) (w:World) :
 (callFunc f args).run P w=.ok (.enter f args) w:=by
 have h1:fn.name ≠ "runtime.NumGoroutine" := by simpa using hname
 simp [callFunc,hf,h1,hb]
theorem ztb (hl:laidOutB P=true) (hT:zcq P T) (he:zem P P.globals.size T n):zbe P P.globals.size (zbw T (n+1)):=by
 refine ⟨hl, ?_⟩
 intro f args H v H' hg hok K us hr hc o a next Q hn
 simp only [zbw] at hg
 split at hg
 ·cases hg
 rename_i F hF
 by_cases hlen:F.nt<args.length
 ·rw [if_pos hlen] at hg; cases hg
 rw [if_neg hlen] at hg
 rcases hT f F hF with ⟨hm10,hlib⟩ | ⟨hm10,hp,hpu,hcf⟩
 ·rw [if_pos hm10] at hg
  exact hlib args H v H' hg hok K us hr hc o a next Q hn
 rw [if_neg (by omega)] at hg
 obtain ⟨fn,c,hf,hb,hname,hcode,hres,hnt,hro⟩:=zn9 hcf
 have hρ:∀ b,K.ρ b→b<K.w.heap.size:=fun b h=>(hr.loc b h).2
 have hsz:us.size≤fn.ntmps:=by rw [← hc.1]; omega
 rw [zid hf hname hb,Oper.upon_enter]
 have post:∀ (K:Ctx) (H0:GH) (r:GExit) (s':St) (v':GV),(r=.normal∨r=.ret)→zaz s' F.results=some v' →
  (∀ rv K',HR P.globals.size K' s'.H→VR K' v' rv→Ext (fun _=>False) H0.bo H0.bt K K'→next (a.put o.dst rv) K'.w) →
  ∀ a' w',SimS P.globals.size K H0 fn.ntmps s' a' w'→bodyPost P fn (fun | .returned v,w=>next (a.put o.dst v) w | .panicked chain,w=>Q (.panic chain) a w | .outgrown,_=>LetsOut Q) r.to a' w':=by
  intro K H0 r s' v' hr1 hv' hfin a' w' hs'
  obtain ⟨K',lam,hs'⟩:=hs'
  obtain ⟨rv,h1,h2⟩:=zfX hs'.hr hs'.fr hres hv'
  have hw:=hs'.w
  subst hw
  have:=hfin rv K' hs'.hr h2 hs'.ext
  rcases hr1 with rfl | rfl <;> exact ⟨hs'.fr.defers,rv,h1,this⟩
 split at hg
 ·have key:∀ (r:GExit) (s':St),(r=.normal∨r=.ret)→zak T n F.body { e:={ s:=args,gen:=0 },H:={ H with bo:=H.objs.length,bt:=H.toks.length } }=some (r,s') →
   ((zaz s' F.results).bind fun v=>(zaI H.objs.length H.toks.length 100 v).map fun v=>(v,H))=some (v,H') →
   Calls P f us K.w (fun | .returned v,w=>next (a.put o.dst v) w | .panicked chain,w=>Q (.panic chain) a w | .outgrown,_=>LetsOut Q):=by
   intro r s' hr1 hx hv
   simp only [Option.bind_eq_some_iff,Option.map_eq_some_iff,Prod.mk.injEq] at hv
   obtain ⟨v0,h1,v1,h2,rfl,rfl⟩:=hv
   refine calls_of_wp hf hb (he K { H with bo:=H.objs.length,bt:=H.toks.length } hp fn.ntmps c F.body _ r s' _ K.w _ hpu hρ hcode hx ⟨K,_,Sim.enter hr.guard ⟨rfl,rfl⟩ hok hc hsz⟩ ?_)
   refine post _ _ r s' v0 hr1 h1 (fun rv K' hr' hv' hx'=>?_)
   obtain ⟨q1,q2,q3⟩:=zs6 hr hr' hx'
   exact hn rv (K.back K') q1 (zia q3 _ _ _ _ h2 hv') q2
  split at hg
  ·rename_i s' hx
   exact key .normal s' (.inl rfl) hx hg
  ·rename_i s' hx
   exact key .ret s' (.inr rfl) hx hg
  ·cases hg
 split at hg
 ·split at hg
  case isFalse=>cases hg
  rename_i hpl
  rw [hro] at hg
  have hca:CR (K.iso P.globals.size) args us:=by
   refine ⟨hc.1,fun i x u hx hu=>?_⟩
   rw [List.all_eq_true] at hpl
   exact zly _ _ _ (hpl x (List.mem_of_getElem? hx)) (hc.2 i x u hx hu)
  have key:∀ (r:GExit) (s':St),(r=.normal∨r=.ret)→zak T n F.body { e:={ s:=args,gen:=0 },H:=zl3 P.globals.size }=some (r,s') →
   ((zaz s' F.results).bind fun v=>if plain 100 v then some (v,H) else none)=some (v,H') →
   Calls P f us K.w (fun | .returned v,w=>next (a.put o.dst v) w | .panicked chain,w=>Q (.panic chain) a w | .outgrown,_=>LetsOut Q):=by
   intro r s' hr1 hx hv
   simp only [Option.bind_eq_some_iff] at hv
   obtain ⟨v0,h1,hv⟩:=hv
   split at hv
   case isFalse=>cases hv
   rename_i hpv
   simp only [Option.some.injEq,Prod.mk.injEq] at hv
   obtain ⟨rfl,rfl⟩:=hv
   refine calls_of_wp hf hb (he (K.iso P.globals.size) (zl3 P.globals.size) hp fn.ntmps c F.body _ r s' _ K.w _ hpu (fun b h=>h.2) hcode hx ⟨K.iso P.globals.size,_,Sim.enter hr.iso ⟨rfl,rfl⟩ hok hca hsz⟩ ?_)
   refine post _ _ r s' v0 hr1 h1 (fun rv K' hr' hv' hx'=>?_)
   obtain ⟨q1,q2⟩:=zAS hr hx'
   exact hn rv { K with w:=K'.w } q1 (zly _ _ _ hpv hv') q2
  split at hg
  ·rename_i s' hx
   exact key .normal s' (.inl rfl) hx hg
  ·rename_i s' hx
   exact key .ret s' (.inr rfl) hx hg
  ·cases hg
 ·have key:∀ (r:GExit) (s':St),(r=.normal∨r=.ret)→zak T n F.body { e:={ s:=args,gen:=0 },H:=H }=some (r,s') →
   ((zaz s' F.results).map fun v=>(v,s'.H))=some (v,H') →
   Calls P f us K.w (fun | .returned v,w=>next (a.put o.dst v) w | .panicked chain,w=>Q (.panic chain) a w | .outgrown,_=>LetsOut Q):=by
   intro r s' hr1 hx hv
   simp only [Option.map_eq_some_iff,Prod.mk.injEq] at hv
   obtain ⟨v0,h1,rfl,rfl⟩:=hv
   refine calls_of_wp hf hb (he K H hp fn.ntmps c F.body _ r s' _ K.w _ hpu hρ hcode hx ⟨K,_,Sim.enter hr ⟨rfl,rfl⟩ hok hc hsz⟩ ?_)
   exact post _ _ r s' v0 hr1 h1 hn
  split at hg
  ·rename_i s' hx
   exact key .normal s' (.inl rfl) hx hg
  ·rename_i s' hx
   exact key .ret s' (.inr rfl) hx hg
  ·cases hg
theorem zaG (hm:P.follows .mixedOrders=true) (hl:laidOutB P=true) (hT:zcq P T):∀ n,zem P P.globals.size T n∧zfZ P P.globals.size T n∧zbe P P.globals.size (zbw T n):=by
 intro n
 induction n with
 | zero =>
  refine ⟨fun K0 H0 hp nt c ic s r s' a w Q _ _ _ h=>?_,fun K0 H0 hp nt c ic s r s' a w Q _ _ _ h=>?_,⟨hl,fun f args H v H' h=>?_⟩⟩
  ·simp [zak] at h
  ·simp [zak] at h
  ·simp [zbw] at h
 | succ n ih =>
  obtain ⟨h1,h2,h3⟩:=ih
  exact ⟨zs9 hm h3 h1 h2,zta h1 h2,ztb hl hT h1⟩
end
end Go.Sh
namespace Go.Sh
section
variable {call call':Nat→List GV→GH→Option (GV × GH)} {T:Nat→Option IFun}
open Classical in
noncomputable def ecall (T:Nat→Option IFun) (f:Nat) (args:List GV) (H:GH):Option (GV × GH) :=
 if h:∃ r n,zbw T n f args H=some r then some h.choose else none
open Classical in
noncomputable def erun (T:Nat→Option IFun) (c:ICode) (s:St):Option (GExit × St) :=
 if h:∃ r n,zak T n c s=some r then some h.choose else none
theorem ecall_iff {f:Nat} {args:List GV} {H:GH} {r:GV × GH} : ecall T f args H=some r↔∃ n,zbw T n f args H=some r:=by
 unfold ecall
 constructor
 ·intro h
  split at h
  ·rename_i hh
   injection h with h
   obtain ⟨n,hn⟩:=hh.choose_spec
   exact ⟨n,by rw [← h]; exact hn⟩
  ·cases h
 ·rintro ⟨n,hn⟩
  have hh:∃ r n,zbw T n f args H=some r:=⟨r,n,hn⟩
  rw [dif_pos hh]
  obtain ⟨m,hm⟩:=hh.choose_spec
  have h1:=zel (Nat.le_max_left n m) _ _ _ _ hn
  have h2:=zel (Nat.le_max_right n m) _ _ _ _ hm
  rw [h1] at h2
  exact h2.symm
theorem erun_iff {c:ICode} {s:St} {r:GExit × St} : erun T c s=some r↔∃ n,zak T n c s=some r:=by
 unfold erun
 constructor
 ·intro h
  split at h
  ·rename_i hh
   injection h with h
   obtain ⟨n,hn⟩:=hh.choose_spec
   exact ⟨n,by rw [← h]; exact hn⟩
  ·cases h
 ·rintro ⟨n,hn⟩
  have hh:∃ r n,zak T n c s=some r:=⟨r,n,hn⟩
  rw [dif_pos hh]
  obtain ⟨m,hm⟩:=hh.choose_spec
  have h1:=zdo (Nat.le_max_left n m) hn
  have h2:=zdo (Nat.le_max_right n m) hm
  rw [h1] at h2
  exact h2.symm
theorem zya (n:Nat):zib (zbw T n) (ecall T):=fun _ _ _ _ h=>ecall_iff.2 ⟨n,h⟩
theorem zv4 {p:Prim} {args:List GV} {e:Env} {H:GH} {f:Eff} (h:zao (ecall T) p args e H=some f):∃ n,zao (zbw T n) p args e H=some f:=by
 have key:∀ {g:Nat} {as:List GV} {r:GV × GH},ecall T g as H=some r→∃ n,zbw T n g as H=some r:=fun h=>ecall_iff.1 h
 cases p
 case call g =>
  simp only [zao] at h ⊢
  split at h
  ·rename_i hok
   simp only [Option.map_eq_some_iff] at h
   obtain ⟨r,h1,h2⟩:=h
   obtain ⟨n,hn⟩:=key h1
   exact ⟨n,by rw [if_pos hok,hn,← h2]; rfl⟩
  ·cases h
 case callP g =>
  simp only [zao] at h ⊢
  split at h
  ·rename_i hok
   simp only [Option.map_eq_some_iff] at h
   obtain ⟨r,h1,h2⟩:=h
   obtain ⟨n,hn⟩:=key h1
   exact ⟨n,by rw [if_pos hok,hn,← h2]; rfl⟩
  ·cases h
 case callv =>
  simp only [zao] at h ⊢
  split at h
  ·split at h
   ·rename_i hok
    simp only [Option.map_eq_some_iff] at h
    obtain ⟨r,h1,h2⟩:=h
    obtain ⟨n,hn⟩:=key h1
    exact ⟨n,by simp only [hok,if_true]; rw [hn,← h2]; rfl⟩
   ·cases h
  ·cases h
 all_goals exact ⟨0,h⟩
theorem zyb {o:IOp} {s s':St} (h:gop (ecall T) o s=some s'):∃ n,gop (zbw T n) o s=some s':=by
 unfold gop at *
 cases hg:zbm s.e o.guard with
 | none=>simp only [hg] at h; cases h
 | some b =>
  cases b with
  | false=>simp only [hg] at h ⊢; exact ⟨0,h⟩
  | true =>
   simp only [hg] at h ⊢
   split at h
   ·rename_i hok
    simp only [Option.map_eq_some_iff] at h
    obtain ⟨f,h1,h2⟩:=h
    obtain ⟨n,hn⟩:=zv4 h1
    exact ⟨n,by rw [if_pos hok,hn,← h2]; rfl⟩
   ·cases h
theorem zoa:∀ (l:List IOp) {s s':St},zbC (ecall T) l s=some s'→∃ n,zbC (zbw T n) l s=some s'
 | [],s,s',h=>⟨0,h⟩
 | o::l,s,s',h=>by
  simp only [zbC,Option.bind_eq_some_iff] at *
  obtain ⟨s1,h1,h2⟩:=h
  obtain ⟨n,hn⟩:=zyb h1
  obtain ⟨m,hm⟩:=zoa l h2
  exact ⟨max n m,s1,zn8 (zel (Nat.le_max_left n m)) hn,zdn (zel (Nat.le_max_right n m)) l hm⟩
theorem ztc (s:St):erun T .skip s=some (.normal,s):=erun_iff.2 ⟨1,rfl⟩
theorem ztd (k:Nat) (l:List GV) (g:Nat) (H:GH):erun T (.bump k) ⟨⟨l,g⟩,H⟩=some (.normal,⟨⟨l,g+k⟩,H⟩):=erun_iff.2 ⟨1,rfl⟩
theorem zte (id:Nat) (s:St):erun T (.exit id) s=some (.exit id,s):=erun_iff.2 ⟨1,rfl⟩
theorem zv5 (s:St):erun T .ret s=some (.ret,s):=erun_iff.2 ⟨1,rfl⟩
theorem ztf (s:St):erun T .trap s=none:=by
 cases h:erun T .trap s with
 | none=>rfl
 | some r =>
  obtain ⟨n,hn⟩:=erun_iff.1 h
  cases n <;> simp [zak] at hn
theorem zfi (ops:List IOp) (s:St):erun T (.region ops) s=(zbC (ecall T) ops s).map fun s=>(.normal,s):=by
 apply Option.ext
 intro r
 rw [erun_iff]
 constructor
 ·rintro ⟨n,hn⟩
  cases n with
  | zero=>simp [zak] at hn
  | succ n=>simp only [zak] at hn; exact zic (fun r=>zdn (zya n) ops) hn
 ·intro h
  simp only [Option.map_eq_some_iff] at h
  obtain ⟨s',h1,rfl⟩:=h
  obtain ⟨n,hn⟩:=zoa ops h1
  exact ⟨n+1,by simp [zak,hn]⟩
theorem zob (a b:ICode) (s:St):erun T (.seq a b) s=match erun T a s with
 | some (.normal,s)=>erun T b s
 | r=>r:=by
 apply Option.ext
 intro r
 rw [erun_iff]
 constructor
 ·rintro ⟨n,hn⟩
  cases n with
  | zero=>simp [zak] at hn
  | succ n =>
   simp only [zak] at hn
   split at hn
   ·rename_i s1 h1
    rw [erun_iff.2 ⟨n,h1⟩]
    exact erun_iff.2 ⟨n,hn⟩
   ·rename_i hne
    rw [erun_iff.2 ⟨n,hn⟩]
    split
    ·rename_i s1 h1; injection h1 with h1; subst h1; exact absurd hn (hne s1)
    ·rfl
 ·intro h
  split at h
  ·rename_i s1 h1
   obtain ⟨n,hn⟩:=erun_iff.1 h1
   obtain ⟨m,hm⟩:=erun_iff.1 h
   exact ⟨max n m+1,by rw [zak,zdo (Nat.le_max_left n m) hn]; exact zdo (Nat.le_max_right n m) hm⟩
  ·rename_i hne
   obtain ⟨n,hn⟩:=erun_iff.1 h
   refine ⟨n+1, ?_⟩
   rw [zak,hn]
   split
   ·rename_i s1 h1; injection h1 with h1; subst h1; exact absurd h (hne s1)
   ·rfl
theorem ztg (c:Src) (a b:ICode) (s:St):erun T (.cond c a b) s=match zac s.e c with
 | .bool true=>erun T a s
 | .bool false=>erun T b s
 | _=>none:=by
 apply Option.ext
 intro r
 rw [erun_iff]
 constructor
 ·rintro ⟨n,hn⟩
  cases n with
  | zero=>simp [zak] at hn
  | succ n =>
   simp only [zak] at hn
   split at hn
   ·rename_i hb; simp only [hb]; exact erun_iff.2 ⟨n,hn⟩
   ·rename_i hb; simp only [hb]; exact erun_iff.2 ⟨n,hn⟩
   ·cases hn
 ·intro h
  split at h
  ·rename_i hb
   obtain ⟨n,hn⟩:=erun_iff.1 h
   exact ⟨n+1,by simp only [zak,hb]; exact hn⟩
  ·rename_i hb
   obtain ⟨n,hn⟩:=erun_iff.1 h
   exact ⟨n+1,by simp only [zak,hb]; exact hn⟩
  ·cases h
theorem zpP (id:Nat) (a:ICode) (s:St):erun T (.block id a) s=match erun T a s with
 | some (.exit id',s)=>if id'=id then some (.normal,s) else some (.exit id',s)
 | r=>r:=by
 apply Option.ext
 intro r
 rw [erun_iff]
 constructor
 ·rintro ⟨n,hn⟩
  cases n with
  | zero=>simp [zak] at hn
  | succ n =>
   simp only [zak] at hn
   split at hn
   ·rename_i id' s1 h1
    rw [erun_iff.2 ⟨n,h1⟩]
    exact hn
   ·rename_i hne
    rw [erun_iff.2 ⟨n,hn⟩]
    split
    ·rename_i id' s1 h1; injection h1 with h1; subst h1; exact absurd hn (hne id' s1)
    ·rfl
 ·intro h
  split at h
  ·rename_i id' s1 h1
   obtain ⟨n,hn⟩:=erun_iff.1 h1
   exact ⟨n+1,by rw [zak,hn]; exact h⟩
  ·rename_i hne
   obtain ⟨n,hn⟩:=erun_iff.1 h
   refine ⟨n+1, ?_⟩
   rw [zak,hn]
   split
   ·rename_i id' s1 h1; injection h1 with h1; subst h1; exact absurd h (hne id' s1)
   ·rfl
theorem zth (a:ICode) (s:St):erun T (.loop a) s=match erun T a s with
 | some (.normal,s)=>erun T (.loop a) s
 | r=>r:=by
 apply Option.ext
 intro r
 rw [erun_iff]
 constructor
 ·rintro ⟨n,hn⟩
  cases n with
  | zero=>simp [zak] at hn
  | succ n =>
   simp only [zak] at hn
   split at hn
   ·rename_i s1 h1
    rw [erun_iff.2 ⟨n,h1⟩]
    exact erun_iff.2 ⟨n,hn⟩
   ·rename_i hne
    rw [erun_iff.2 ⟨n,hn⟩]
    split
    ·rename_i s1 h1; injection h1 with h1; subst h1; exact absurd hn (hne s1)
    ·rfl
 ·intro h
  split at h
  ·rename_i s1 h1
   obtain ⟨n,hn⟩:=erun_iff.1 h1
   obtain ⟨m,hm⟩:=erun_iff.1 h
   exact ⟨max n m+1,by rw [zak,zdo (Nat.le_max_left n m) hn]; exact zdo (Nat.le_max_right n m) hm⟩
  ·rename_i hne
   obtain ⟨n,hn⟩:=erun_iff.1 h
   refine ⟨n+1, ?_⟩
   rw [zak,hn]
   split
   ·rename_i s1 h1; injection h1 with h1; subst h1; exact absurd h (hne s1)
   ·rfl
def zlC (r:Option (GExit × St)) (k:St→Option (GV × GH)):Option (GV × GH) :=
 match r with
 | some (.normal,s) | some (.ret,s)=>k s
 | _=>none
theorem zki {f:Nat} {F:IFun} (hF:T f=some F) (args:List GV) (H:GH):ecall T f args H=if F.nt<args.length then none else
 if 10≤F.mode then ziz F args H else
 if F.mode=1 then
  zlC (erun T F.body { e:={ s:=args,gen:=0 },H:={ H with bo:=H.objs.length,bt:=H.toks.length } }) fun s=>(zaz s F.results).bind fun v=>(zaI H.objs.length H.toks.length 100 v).map fun v=>(v,H)
 else if F.mode=2 then
  if args.all (plain 100) then
   zlC (erun T F.body { e:={ s:=args,gen:=0 },H:={ objs:=List.replicate F.ro .dead,toks:=[],bo:=F.ro,bt:=0 } }) fun s=>(zaz s F.results).bind fun v=>if plain 100 v then some (v,H) else none
  else none
 else
  zlC (erun T F.body { e:={ s:=args,gen:=0 },H:=H }) fun s=>(zaz s F.results).map fun v=>(v,s.H):=by
 have body:∀ (s0:St) (k:St→Option (GV × GH)) (r:GV × GH),zlC (erun T F.body s0) k=some r↔∃ n,zlC (zak T n F.body s0) k=some r:=by
  intro s0 k r
  constructor
  ·intro h
   unfold zlC at h
   split at h
   ·rename_i s h1
    obtain ⟨n,hn⟩:=erun_iff.1 h1
    exact ⟨n,by rw [hn]; exact h⟩
   ·rename_i s h1
    obtain ⟨n,hn⟩:=erun_iff.1 h1
    exact ⟨n,by rw [hn]; exact h⟩
   ·cases h
  ·rintro ⟨n,h⟩
   unfold zlC at h
   split at h
   ·rename_i s h1
    rw [erun_iff.2 ⟨n,h1⟩]; exact h
   ·rename_i s h1
    rw [erun_iff.2 ⟨n,h1⟩]; exact h
   ·cases h
 have step:∀ n,zbw T (n+1) f args H=if F.nt<args.length then none else
  if 10≤F.mode then ziz F args H else
  if F.mode=1 then
   zlC (zak T n F.body { e:={ s:=args,gen:=0 },H:={ H with bo:=H.objs.length,bt:=H.toks.length } }) fun s=>(zaz s F.results).bind fun v=>(zaI H.objs.length H.toks.length 100 v).map fun v=>(v,H)
  else if F.mode=2 then
   if args.all (plain 100) then
    zlC (zak T n F.body { e:={ s:=args,gen:=0 },H:={ objs:=List.replicate F.ro .dead,toks:=[],bo:=F.ro,bt:=0 } }) fun s=>(zaz s F.results).bind fun v=>if plain 100 v then some (v,H) else none
   else none
  else
   zlC (zak T n F.body { e:={ s:=args,gen:=0 },H:=H }) fun s=>(zaz s F.results).map fun v=>(v,s.H):=by
  intro n
  simp only [zbw,hF]
  rfl
 apply Option.ext
 intro r
 rw [ecall_iff]
 have hz:(∃ n,zbw T n f args H=some r)↔∃ n,zbw T (n+1) f args H=some r :=
  ⟨fun ⟨n,h⟩=>⟨n,zel (Nat.le_succ n) _ _ _ _ h⟩,fun ⟨n,h⟩=>⟨n+1,h⟩⟩
 rw [hz]
 simp only [step]
 split
 ·simp
 ·split
  ·exact ⟨fun ⟨_,h⟩=>h,fun h=>⟨0,h⟩⟩
  split
  ·exact (body _ _ _).symm
  ·split
   ·split
    ·exact (body _ _ _).symm
    ·simp
   ·exact (body _ _ _).symm
theorem zm3 [Facts] {P:Program} (hm:P.follows .mixedOrders=true) (hl:laidOutB P=true) (hT:zcq P T):zbe P P.globals.size (ecall T):=by
 refine ⟨hl, ?_⟩
 intro f args H v H' h
 obtain ⟨n,hn⟩:=ecall_iff.1 h
 exact (zaG hm hl hT n).2.2.2 f args H v H' hn
end
end Go.Sh
