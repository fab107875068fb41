/- Own work: the zaG machine and what it shows, part ShC. -/
import Derived.Test.YtchjbidfmhmmhaaGreatDoorShB
import Derived.Deep.AppendSrc
import Derived.Lib.ConvBytes
import Derived.Maps.Keyed
import Derived.DeepKeys4
import Derived.StringKeys
set_option linter.all false
namespace Go.Sh
variable [Facts]
structure WGrow (w w':World):Prop where
 size:w.heap.size≤w'.heap.size
 tape:w'.tape=w.tape
 os:w'.os=w.os
 output:w'.output=w.output
 old:∀ b,b<w.heap.size→w'.heap[b]?=w.heap[b]?
 drawn:Facts.mono→w.drawn≤w'.drawn
theorem WGrow.cell {w w':World} (h:WGrow w w') {b o:Nat} (hb:b<w.heap.size):w'.cell? ⟨b,o,none⟩=w.cell? ⟨b,o,none⟩:=by
 simp [World.cell?,h.old b hb]
theorem WGrow.push (w:World) (d:Nat) (x:Obj) (hd:w.drawn≤d:=by first | exact Nat.le_refl _ | exact Nat.le_succ _):WGrow w { w with heap:=w.heap.push x,drawn:=d } :=
 ⟨by simp,rfl,rfl,rfl,fun b hb=>by simp [Array.getElem?_push,Nat.ne_of_lt hb],fun _=>hd⟩
theorem zcw (w:World) (d:Nat) (x:Obj):({ w with heap:=w.heap.push x,drawn:=d } : World).heap[w.heap.size]?=some x:=by simp
section
variable {ro:Nat} {K:Ctx} {H:GH}
structure Fresh (K K':Ctx) (nb:Nat):Prop where
 hnb:nb=K.w.heap.size
 grow:WGrow K.w K'.w
 lt:nb<K'.w.heap.size
 N:K'.N=K.N
 nO:K.nO≤K'.nO
 φ:∀ id b,K'.φ id=some b→K.φ id=some b∨b=nb
 φ':∀ id,id<K.nO→K'.φ id=K.φ id
 κ:∀ id,id<K.nO→K'.κ id=K.κ id
 τ:∀ t ti,K'.τ t=some ti→K.τ t=some ti∨ti.b=nb
 ρ:∀ b,K.ρ b→K'.ρ b
 ρ':∀ b,K'.ρ b→K.ρ b∨b=nb
 tok:∀ t p,K.toks[t]?=some p→∃ p',K'.toks[t]?=some p'∧p≤p'∧(p=p'→K'.τ t=K.τ t)
theorem Fresh.imm {K K':Ctx} {nb:Nat} (f:Fresh K K' nb) {b o:Nat} (h:Imm K b o):Imm K' b o:=by
 obtain ⟨h1,h2,h3,h4⟩:=h
 have hne:b≠nb:=by have:=f.hnb; omega
 refine ⟨Nat.lt_of_lt_of_le h1 f.grow.size,fun hr=>?_,fun id hid=>?_,fun t ti ht hb=>?_⟩
 ·rcases f.ρ' b hr with hr | hr
  ·exact h2 hr
  ·exact hne hr
 ·rcases f.φ id b hid with hr | hr
  ·exact h3 id hr
  ·exact hne hr
 ·rcases f.τ t ti ht with hr | hr
  ·exact h4 t ti hr hb
  ·exact absurd (hb.symm.trans hr) hne
theorem Fresh.ext {K K':Ctx} {nb:Nat} (f:Fresh K K' nb) (hr:HR ro K H) (hprot:∀ t,t<H.bt→t<K.toks.length→K'.τ t=K.τ t∧K'.toks[t]?=K.toks[t]?) (L:Nat→Prop):Ext L H.bo H.bt K K' where
 N:=f.N
 nO:=f.nO
 size:=f.grow.size
 tape:=f.grow.tape
 os:=f.grow.os
 output:=f.grow.output
 drawn:=f.grow.drawn
 φ:=fun id b hid hb=>by rw [← f.φ' id hid]; exact hb
 κ:=f.κ
 imm:=fun b o h=>⟨f.imm h,f.grow.cell h.1⟩
 loc:=fun b hb=>⟨f.ρ b hb,fun _=>f.grow.old b (hr.loc b hb).2⟩
 below:=fun b hb=>f.grow.old b (Nat.lt_of_lt_of_le hb hr.size)
 tok:=f.tok
 prot:=fun id _ hid=>⟨f.φ' id hid,fun b hb=>f.grow.old b (hr.dom id b hb).2.1⟩
 protT:=fun t h1 h2=>⟨(hprot t h1 h2).1,(hprot t h1 h2).2,fun ti hti=>f.grow.old ti.b (hr.tok t ti hti).2.1⟩
theorem ObjR.ext {L:Nat→Prop} {bo bt:Nat} {K K':Ctx} (x:Ext L bo bt K K') {id:Nat} {o:GObj} (h:ObjR K ro id o) (hφ:K'.φ id=K.φ id) (hb:∀ b,K.φ id=some b→K'.w.heap[b]?=K.w.heap[b]?):ObjR K' ro id o:=by
 cases o with
 | cells t cs =>
  obtain ⟨b,vs,elem,fr,h1,h2,h3,h4,h5⟩:=h
  exact ⟨b,vs,elem,fr,hφ.trans h1,(hb b h1).trans h2,h3,h4,fun i c v hc hv=>(h5 i c v hc hv).ext x⟩
 | row t cs =>
  obtain ⟨hid,hro,b,vs,h1,h2,h3,h4,h5⟩:=h
  exact ⟨Nat.lt_of_lt_of_le hid x.nO,hro,b,vs,hφ.trans h1,(hb b h1).trans h2,h3.trans (x.κ id hid).symm,h4,fun i c v hc hv=>(h5 i c v hc hv).ext x⟩
 | map ag ls es =>
  obtain ⟨hw,b,ents,clock,h1,h2,h3,es',h4,h5,h6⟩:=h
  exact ⟨hw,b,ents,clock,hφ.trans h1,(hb b h1).trans h2,h3,es',h4,h5,fun i p m hp hm=>⟨(h6 i p m hp hm).1.ext x,(h6 i p m hp hm).2.ext x⟩⟩
 | dead=>trivial
theorem HR.fresh {K K':Ctx} {nb:Nat} (hr:HR ro K H) (f:Fresh K K' nb) (hφ:K'.φ=K.φ) (hτ:K'.τ=K.τ) (ht:K'.toks=K.toks) (hn:K'.nO=K.nO):HR ro K' H:=by
 have x:=f.ext hr (fun t _ _=>⟨by rw [hτ],by rw [ht]⟩) (fun _=>False)
 refine ⟨hr.nO.trans hn.symm,hr.toks.trans ht.symm,hr.bo,by rw [ht]; exact hr.bt,fun id o ho=>?_,fun id id' b h h'=>?_,fun id b h=>?_,fun g b hg h=>?_,by rw [hn]; exact hr.roN,fun t ti h=>?_,fun t t' ti ti' h h' e=>?_, ?_,fun b hb=>?_,hr.to f.N (fun b hb=>f.grow.old b (Nat.lt_of_lt_of_le hb hr.size))⟩
 ·exact (hr.obj id o ho).ext x (by rw [hφ]) (fun b hb=>f.grow.old b (hr.dom id b hb).2.1)
 ·rw [hφ] at h h'; exact hr.inj id id' b h h'
 ·rw [hφ] at h
  obtain ⟨h1,h2,h3,h4⟩:=hr.dom id b h
  refine ⟨by rw [hn]; exact h1,Nat.lt_of_lt_of_le h2 f.grow.size,fun hb=>?_,by rw [f.N]; exact h4⟩
  rcases f.ρ' b hb with hb | hb
  ·exact h3 hb
  ·have:=f.hnb; omega
 ·rw [hφ] at h; exact hr.glob g b hg h
 ·rw [hτ] at h
  obtain ⟨h1,h2,h3,h4,h5,cur,lo,hi,h6,h7⟩:=hr.tok t ti h
  refine ⟨by rw [ht]; exact h1,Nat.lt_of_lt_of_le h2 f.grow.size,by rw [f.N]; exact h3,fun hb=>?_,by rw [hφ]; exact h5,cur,lo,hi,(f.grow.old _ h2).trans h6,h7⟩
  rcases f.ρ' _ hb with hb | hb
  ·exact h4 hb
  ·have:=f.hnb; omega
 ·rw [hτ] at h h'; exact hr.tinj t t' ti ti' h h' e
 ·rw [f.N]; exact Nat.le_trans hr.size f.grow.size
 ·rw [f.N]
  rcases f.ρ' b hb with hb | hb
  ·obtain ⟨h1,h2⟩:=hr.loc b hb
   exact ⟨h1,Nat.lt_of_lt_of_le h2 f.grow.size⟩
  ·subst hb; exact ⟨by rw [f.hnb]; exact hr.size,f.lt⟩
theorem zmP (hr:HR ro K H) (d:Nat) (x:Obj) (hd:K.w.drawn≤d:=by first | exact Nat.le_refl _ | exact Nat.le_succ _):Fresh K { K with w:={ K.w with heap:=K.w.heap.push x,drawn:=d } } K.w.heap.size where
 hnb:=rfl
 grow:=WGrow.push K.w d x hd
 lt:=by simp
 N:=rfl
 nO:=Nat.le_refl _
 φ:=fun id b h=>.inl h
 φ':=fun _ _=>rfl
 κ:=fun _ _=>rfl
 τ:=fun t ti h=>.inl h
 ρ:=fun _ h=>h
 ρ':=fun _ h=>.inl h
 tok:=fun t p h=>⟨p,h,Nat.le_refl _,fun _=>rfl⟩
def zjp (K:Ctx) (d:Nat) (x:Obj):Ctx:={ K with w:={ K.w with heap:=K.w.heap.push x,drawn:=d },ρ:=fun b=>K.ρ b∨b=K.w.heap.size }
theorem zll (hr:HR ro K H) (d:Nat) (x:Obj) (hd:K.w.drawn≤d:=by first | exact Nat.le_refl _ | exact Nat.le_succ _):Fresh K (zjp K d x) K.w.heap.size where
 hnb:=rfl
 grow:=WGrow.push K.w d x hd
 lt:=by simp [zjp]
 N:=rfl
 nO:=Nat.le_refl _
 φ:=fun id b h=>.inl h
 φ':=fun _ _=>rfl
 κ:=fun _ _=>rfl
 τ:=fun t ti h=>.inl h
 ρ:=fun _ h=>.inl h
 ρ':=fun _ h=>h
 tok:=fun t p h=>⟨p,h,Nat.le_refl _,fun _=>rfl⟩
def zdG:Obj→Nat
 | .cells vs _ _=>vs.size
 | _=>0
def zaq (K:Ctx) (d:Nat) (x:Obj):Ctx :=
 { K with w:={ K.w with heap:=K.w.heap.push x,drawn:=d },φ:=fun id=>if id=K.nO then some K.w.heap.size else K.φ id,κ:=fun id=>if id=K.nO then zdG x else K.κ id,nO:=K.nO+1 }
theorem zcC (hr:HR ro K H) (d:Nat) (x:Obj) (hd:K.w.drawn≤d:=by first | exact Nat.le_refl _ | exact Nat.le_succ _):Fresh K (zaq K d x) K.w.heap.size where
 hnb:=rfl
 grow:=WGrow.push K.w d x hd
 lt:=by simp [zaq]
 N:=rfl
 nO:=by simp [zaq]
 φ:=fun id b h=>by
  simp only [zaq] at h
  split at h
  ·injection h with h; exact .inr h.symm
  ·exact .inl h
 φ':=fun id h=>by simp only [zaq]; rw [if_neg (by omega)]
 κ:=fun id h=>by simp only [zaq]; rw [if_neg (by omega)]
 τ:=fun t ti h=>.inl h
 ρ:=fun _ h=>h
 ρ':=fun _ h=>.inl h
 tok:=fun t p h=>⟨p,h,Nat.le_refl _,fun _=>rfl⟩
theorem HR.newObj (hr:HR ro K H) (d:Nat) (x:Obj) (o:GObj) (ho:ObjR (zaq K d x) ro K.nO o) (hd:K.w.drawn≤d:=by first | exact Nat.le_refl _ | exact Nat.le_succ _):HR ro (zaq K d x) (H.newObj o):=by
 have f:=zcC hr d x hd
 have xx:=f.ext hr (fun t _ _=>⟨rfl,rfl⟩) (fun _=>False)
 have hn:=hr.nO
 have hold:∀ id b,K.φ id=some b→id≠K.nO:=fun id b h e=>by have:=(hr.dom id b h).1; omega
 refine ⟨by simp [GH.newObj,zaq,hn],hr.toks,hr.bo,hr.bt,fun id o' ho'=>?_,fun id id' b h h'=>?_,fun id b h=>?_,fun g b hg h=>?_,Nat.le_trans hr.roN (by simp [zaq]),fun t ti h=>?_,hr.tinj,Nat.le_trans hr.size f.grow.size,fun b hb=>?_,hr.to f.N (fun b hb=>f.grow.old b (Nat.lt_of_lt_of_le hb hr.size))⟩
 ·simp only [GH.newObj] at ho'
  by_cases hid:id<H.objs.length
  ·rw [List.getElem?_append_left hid] at ho'
   exact (hr.obj id o' ho').ext xx (f.φ' id (by omega)) (fun b hb=>f.grow.old b (hr.dom id b hb).2.1)
  ·rw [List.getElem?_append_right (by omega)] at ho'
   have:id=K.nO:=by
    have:=(List.getElem?_eq_some_iff.1 ho').1
    simp at this; omega
   subst this
   simp [hn] at ho'; subst ho'; exact ho
 ·rcases f.φ id b h with h1 | h1 <;> rcases f.φ id' b h' with h2 | h2
  ·exact hr.inj id id' b h1 h2
  ·have:=(hr.dom id b h1).2.1; have:=f.hnb; omega
  ·have:=(hr.dom id' b h2).2.1; have:=f.hnb; omega
  ·simp only [zaq] at h h'
   split at h <;> split at h'
   ·omega
   ·have:=(hr.dom id' b h').2.1; omega
   ·have:=(hr.dom id b h).2.1; omega
   ·have:=(hr.dom id b h).2.1; omega
 ·rcases f.φ id b h with h1 | h1
  ·obtain ⟨a1,a2,a3,a4⟩:=hr.dom id b h1
   exact ⟨by simp [zaq]; omega,Nat.lt_of_lt_of_le a2 f.grow.size,a3,a4⟩
  ·subst h1
   refine ⟨?_,f.lt,fun hb=>by have:=(hr.loc _ hb).2; omega,fun _=>hr.size⟩
   simp only [zaq] at h ⊢
   split at h
   ·omega
   ·have:=(hr.dom id _ h).1; omega
 ·rcases f.φ g b h with h1 | h1
  ·exact hr.glob g b hg h1
  ·simp only [zaq] at h
   have:=hr.roN
   rw [if_neg (by omega)] at h
   exact hr.glob g b hg h
 ·obtain ⟨h1,h2,h3,h4,h5,cur,lo,hi,h6,h7⟩:=hr.tok t ti h
  refine ⟨h1,Nat.lt_of_lt_of_le h2 f.grow.size,h3,h4,fun id hid=>?_,cur,lo,hi,(f.grow.old _ h2).trans h6,h7⟩
  rcases f.φ id _ hid with h8 | h8
  ·exact h5 id h8
  ·omega
 ·obtain ⟨h1,h2⟩:=hr.loc b hb
  exact ⟨h1,Nat.lt_of_lt_of_le h2 f.grow.size⟩
end
def StepOk (P:Program) (ro:Nat) (K:Ctx) (lam:Nat→Option Nat) (nt:Nat) (e:Env) (a:Act) (o:Oper) (H:GH) (f:Eff) (B gk:Nat):Prop :=
 ∃ K' lam' rv,((execOp a.eval o).run P K.w=.ok (.value rv) K'.w∨((execOp a.eval o).run P K.w=.ok .skip K'.w∧rv=undef)) ∧
  HR ro K' f.H∧Ext (Own lam) H.bo H.bt K K'∧(∀ n b,lam n=some b→lam' n=some b)∧(∀ n b,lam' n=some b→lam n=some b∨K.w.heap.size≤b)∧(∀ n,n≠gk→lam' n=lam n) ∧
  ∀ dst:Option Nat,(∀ d,dst=some d→d<nt)→FR K' lam' nt { ((e.box f.box).put dst f.v) with gen:=B } (a.put dst rv)
section
variable {P:Program} {ro:Nat} {hp:List Nat} {K:Ctx} {H:GH} {lam:Nat→Option Nat} {nt:Nat} {e:Env} {a:Act} {o:Oper} {B gk:Nat}
theorem FR.own (fr:FR K lam nt e a) {b:Nat} (h:Own lam b):K.ρ b:=by obtain ⟨n,hn⟩:=h; exact fr.lamρ n b hn
theorem StepOk.plain (fr:FR K lam nt e a) (hr:HR ro K H) (hB:e.gen≤B) {K':Ctx} {f:Eff} {rv:Value} (hrun:(execOp a.eval o).run P K.w=.ok (.value rv) K'.w) (hr':HR ro K' f.H)
 (x:Ext (fun _=>False) H.bo H.bt K K') (hv:SR K' lam f.v rv) (hvn:zmN f.v) (hb:f.box=none):StepOk P ro K lam nt e a o H f B gk:=by
 refine ⟨K',lam,rv,.inl hrun,hr',x.none,fun _ _ h=>h,fun _ _ h=>.inl h,fun _ _=>rfl,fun dst hd=>?_⟩
 exact fr.step (m:=none) (B:=B) x (fun _ _ h=>h) (fun n b h=>(x.loc b (fr.lamρ n b h)).1) fr.linj (fun n hn=>fr.gen n (by omega)) (fun n b h _=>(x.loc b (fr.lamρ n b h)).2 (fun h=>h.elim)) hd hv
  (fun n hn=>absurd hn (hvn n)) (fun n h=>by cases h) (fun s g h=>by rw [hb] at h; cases h)
theorem zaQ (hr:HR ro K H) (fr:FR K lam nt e a) (hB:e.gen≤B) {v:GV} {g:Nat} (h:za7 P K lam a o v):StepOk P ro K lam nt e a o H ⟨v,none,H,g⟩ B gk:=by
 obtain ⟨rv,h1,h2,h3⟩:=h
 exact StepOk.plain fr hr hB h1 hr (Ext.refl _ _ _ _) h2 h3 rfl
theorem StepOk.loc (fr:FR K lam nt e a) (hr:HR ro K H) (hB:e.gen≤B) {d:Nat} {x:Obj} {f:Eff} {rv:Value} {g:Nat} (hg:lam g=none) (hgB:g<B)
 (hrun:(execOp a.eval o).run P K.w=.ok (.value rv) (zjp K d x).w) (hfH:f.H=H) (hfb:f.box=none)
 (hv:∀ lam':Nat→Option Nat,lam' g=some K.w.heap.size→SR (zjp K d x) lam' f.v rv) (hvn:∀ n,zdE f.v n→n=g) (hd:K.w.drawn≤d:=by first | exact Nat.le_refl _ | exact Nat.le_succ _):StepOk P ro K lam nt e a o H f B g:=by
 have hf:=zll hr d x hd
 have hr':=hr.fresh hf rfl rfl rfl rfl
 have xx:=hf.ext hr (fun t _ _=>⟨rfl,rfl⟩) (fun _=>False)
 let lam':Nat→Option Nat:=fun n=>if n=g then some K.w.heap.size else lam n
 have hl:∀ n b,lam n=some b→lam' n=some b:=by
  intro n b h
  simp only [lam']
  rw [if_neg (by intro e; rw [e,hg] at h; cases h)]; exact h
 have hlt:∀ n b,lam n=some b→b<K.w.heap.size:=fun n b h=>(hr.loc b (fr.lamρ n b h)).2
 refine ⟨zjp K d x,lam',rv,.inl hrun,by rw [hfH]; exact hr',xx.none,hl,fun n b h=>?_,fun n hn=>by simp only [lam']; rw [if_neg hn],fun dst hd=>?_⟩
 ·simp only [lam'] at h
  split at h
  ·injection h with h; right; omega
  ·exact .inl h
 ·refine fr.step (m:=none) (B:=B) xx hl (fun n b h=>?_) (fun n n' b h h'=>?_) (fun n hn=>?_) (fun n b h _=>hf.grow.old b (hlt n b h)) hd (hv lam' (by simp [lam'])) (fun n hn=>by rw [hvn n hn]; exact hg) (fun n h=>by cases h) (fun s g h=>by rw [hfb] at h; cases h)
  ·simp only [lam'] at h
   split at h
   ·injection h with h; exact .inr h.symm
   ·exact .inl (fr.lamρ n b h)
  ·simp only [lam'] at h h'
   split at h <;> split at h'
   ·omega
   ·injection h with h; have:=hlt n' b h'; omega
   ·injection h' with h'; have:=hlt n b h; omega
   ·exact fr.linj n n' b h h'
  ·simp only [lam']
   rw [if_neg (by omega)]
   exact fr.gen n (by omega)
theorem zdl (t:TypeId) (v:Value) (w:World):(newVar t v).run P w=.ok ⟨w.heap.size,0,none⟩ { w with heap:=w.heap.push (.cells v.cells t),drawn:=w.drawn }:=by
 simp [newVar,newRow,newObj,Sem.run]
theorem zc2 {t:TypeId} {z:GV} (hz:zcz P t=some z):∃ zv,zeY 8 zv=some z∧∀ w,(zeroValue t).run P w=.ok zv w:=by
 simp only [zcz,Option.bind_eq_some_iff] at hz
 obtain ⟨zv,⟨i,hi,hiz⟩,hzv⟩:=hz
 exact ⟨zv,hzv,fun w=>by simp [zeroValue,zcA hi,hiz]⟩
theorem zmQ {K':Ctx} {lam':Nat→Option Nat} {g b:Nat} {cs:List GV} {vs:Array Value} {t:TypeId} (h1:lam' g=some b) (h2:K'.w.heap[b]?=some (.cells vs t (0,0))) (h3:CR K' cs vs) :
 SR K' lam' (.lbox g cs) (.pointer (some ⟨b,0,none⟩)):=⟨b,vs,t,h1,rfl,h2,h3.1,h3.2⟩
theorem CR.ext {L:Nat→Prop} {bo bt:Nat} {K K':Ctx} (x:Ext L bo bt K K') {cs:List GV} {vs:Array Value} (h:CR K cs vs):CR K' cs vs:=⟨h.1,fun i c v hc hv=>(h.2 i c v hc hv).ext x⟩
theorem zmR (hr:HR ro K H) (fr:FR K lam nt e a) (hB:e.gen≤B) {t:TypeId} {z:GV} {g:Nat} (hg:lam g=none) (hgB:g<B) (ho:o.op=.alloc t) (hz:zcz P t=some z):StepOk P ro K lam nt e a o H ⟨.lbox g z.cells,none,H,g+1⟩ B g:=by
 obtain ⟨zv,hzv,hzr⟩:=zc2 hz
 refine StepOk.loc (d:=K.w.drawn) (x:=.cells zv.cells t) fr hr hB hg hgB (rv:=.pointer (some ⟨K.w.heap.size,0,none⟩)) ?_ rfl rfl (fun lam' h=>?_) (fun n hn=>hn.symm)
 ·simp only [execOp,ho,Instr.alloc,Sem.run_bind,hzr,Result.andThen_ok,zdl,Sem.run_pure]; rfl
 ·exact zmQ (t:=t) h (zcw K.w K.w.drawn _) (zaP _ _ _ _ hzv).cells
theorem zsK (hr:HR ro K H) (fr:FR K lam nt e a) (hB:e.gen≤B) {t:TypeId} {x:Operand} {s:Src} {g:Nat} (hg:lam g=none) (hgB:g<B) (ho:o.op=.box t x) (hs:zbM ro x=some s) (hok:(zac e s).ok=true) :
 StepOk P ro K lam nt e a o H ⟨.lbox g (zac e s).cells,none,H,g+1⟩ B g:=by
 obtain ⟨q1,p1⟩:=zaa hr fr hs
 have hvr:=q1.vr hok
 refine StepOk.loc (d:=K.w.drawn) (x:=.cells (a.eval x).cells t) fr hr hB hg hgB (rv:=.pointer (some ⟨K.w.heap.size,0,none⟩)) ?_ rfl rfl (fun lam' h=>?_) (fun n hn=>hn.symm)
 ·simp only [execOp,ho,Instr.box,Sem.run_bind,zdl,Result.andThen_ok,Sem.run_pure]; rfl
 ·exact zmQ (t:=t) h (zcw K.w K.w.drawn _) (hvr.cells.ext ((zll hr K.w.drawn _).ext hr (fun t _ _=>⟨rfl,rfl⟩) (fun _=>False)))
theorem zpz (hr:HR ro K H) (fr:FR K lam nt e a) (hB:e.gen≤B) {t:TypeId} {x:Operand} {s:Src} {g:Nat} {sb:ByteArray} (hg:lam g=none) (hgB:g<B) (ho:o.op=.range t x) (ht:P.underlying t=some .string) (hs:zbM ro x=some s) (hv:zac e s=.str sb) :
 StepOk P ro K lam nt e a o H ⟨.siter g sb 0,none,H,g+1⟩ B g:=by
 obtain ⟨q1,p1⟩:=zaa hr fr hs
 rw [hv,zfO] at q1
 refine StepOk.loc (d:=K.w.drawn) (x:=.stringIter sb 0) fr hr hB hg hgB (rv:=.pointer (some ⟨K.w.heap.size,0,none⟩)) ?_ rfl rfl (fun lam' h=>?_) (fun n hn=>hn.symm)
 ·simp [execOp,ho,Instr.range,q1,run_underlying ht,newObj,Sem.run,zjp]
 ·exact ⟨_,h,rfl,zcw K.w K.w.drawn _⟩
theorem StepOk.obj (fr:FR K lam nt e a) (hr:HR ro K H) (hB:e.gen≤B) {t:TypeId} {cs:List GV} {vs:Array Value} {g:Nat} (hc:CR K cs vs)
 (hrun:(execOp a.eval o).run P K.w=.ok (.value (.pointer (some ⟨K.w.heap.size,0,none⟩))) (zaq K K.w.drawn (.cells vs t)).w) :
 StepOk P ro K lam nt e a o H ⟨.ptr H.objs.length 0,none,H.newObj (.cells t cs),g⟩ B gk:=by
 have hf:=zcC hr K.w.drawn (.cells vs t)
 have xx:=hf.ext hr (fun t _ _=>⟨rfl,rfl⟩) (fun _=>False)
 have hφ:(zaq K K.w.drawn (.cells vs t)).φ K.nO=some K.w.heap.size:=by simp [zaq]
 have hc':=hc.ext xx
 refine StepOk.plain fr hr hB hrun (hr.newObj _ _ _ ⟨_,vs,t,(0,0),hφ,zcw K.w K.w.drawn _,⟨rfl,fun _=>rfl⟩,hc'.1,hc'.2⟩) xx ?_ (fun n hn=>hn) rfl
 rw [hr.nO]
 exact SR.of (.ptr (by simp [zaq]) (fun c h=>by rw [hφ] at h; injection h with h; exact ⟨h.symm,rfl⟩))
theorem zmS (hr:HR ro K H) (fr:FR K lam nt e a) (hB:e.gen≤B) {t:TypeId} {z:GV} {g:Nat} (ho:o.op=.alloc t) (hz:zcz P t=some z):StepOk P ro K lam nt e a o H ⟨.ptr H.objs.length 0,none,H.newObj (.cells t z.cells),g⟩ B gk:=by
 obtain ⟨zv,hzv,hzr⟩:=zc2 hz
 refine StepOk.obj (t:=t) (vs:=zv.cells) fr hr hB (zaP _ _ _ _ hzv).cells ?_
 simp only [execOp,ho,Instr.alloc,Sem.run_bind,hzr,Result.andThen_ok,zdl,Sem.run_pure]; rfl
theorem zsL (hr:HR ro K H) (fr:FR K lam nt e a) (hB:e.gen≤B) {t:TypeId} {x:Operand} {s:Src} {g:Nat} (ho:o.op=.box t x) (hs:zbM ro x=some s) (hok:(zac e s).ok=true) :
 StepOk P ro K lam nt e a o H ⟨.ptr H.objs.length 0,none,H.newObj (.cells t (zac e s).cells),g⟩ B gk:=by
 obtain ⟨q1,p1⟩:=zaa hr fr hs
 refine StepOk.obj (t:=t) fr hr hB (q1.vr hok).cells ?_
 simp only [execOp,ho,Instr.box,Sem.run_bind,zdl,Result.andThen_ok,Sem.run_pure]; rfl
end
section
variable {P:Program} {ro:Nat} {hp:List Nat} {K:Ctx} {H:GH} {lam:Nat→Option Nat} {nt:Nat} {e:Env} {a:Act} {o:Oper} {B:Nat}
theorem zaH (b:Nat):∀ (vs:List Value) (o:Nat) (w:World) (cur:Array Value) (t:TypeId) (fr:Nat × Nat),w.heap[b]?=some (.cells cur t fr)→o+vs.length≤cur.size →
 (∃ cur',(w.setCells b o vs).heap[b]?=some (.cells cur' t fr)∧cur'.size=cur.size∧∀ i,cur'[i]?=if o≤i∧i<o+vs.length then vs[i - o]? else cur[i]?) ∧
 (∀ k,k≠b→(w.setCells b o vs).heap[k]?=w.heap[k]?)∧(w.setCells b o vs).heap.size=w.heap.size∧(w.setCells b o vs).tape=w.tape∧(w.setCells b o vs).os=w.os∧(w.setCells b o vs).output=w.output:=by
 intro vs
 induction vs with
 | nil =>
  intro o w cur t fr h _
  refine ⟨⟨cur,h,rfl,fun i=>?_⟩,fun _ _=>rfl,rfl,rfl,rfl,rfl⟩
  rw [if_neg (by simp only [List.length_nil]; omega)]
 | cons v vs ih =>
  intro o w cur t fr h hl
  simp only [List.length_cons] at hl
  have h1:(w.setCell ⟨b,o,none⟩ v).heap[b]?=some (.cells (cur.setIfInBounds o v) t fr):=by
   simp [World.setCell,Array.getElem?_modify,h]
  obtain ⟨⟨cur',h2,h3,h4⟩,h5,h6,h7,h8,h9⟩:=ih (o+1) (w.setCell ⟨b,o,none⟩ v) (cur.setIfInBounds o v) t fr h1 (by simp; omega)
  refine ⟨⟨cur',h2,by rw [h3]; simp,fun i=>?_⟩,fun k hk=>?_,by rw [World.setCells,h6]; simp [World.setCell],by rw [World.setCells,h7]; rfl,by rw [World.setCells,h8]; rfl,by rw [World.setCells,h9]; rfl⟩
  ·rw [h4 i]
   by_cases hi:i=o
   ·subst hi
    have hlt:i<cur.size:=by omega
    rw [if_neg (by omega),if_pos (by simp)]
    simp [hlt]
   ·rw [Array.getElem?_setIfInBounds_ne (Ne.symm hi)]
    by_cases hc:o+1≤i∧i<o+1+vs.length
    ·rw [if_pos hc,if_pos (by simp; omega)]
     have e1:i - o=(i - (o+1))+1:=by omega
     rw [e1,List.getElem?_cons_succ]
    ·rw [if_neg hc,if_neg (by simp; omega)]
  ·rw [World.setCells,h5 k hk]
   simp [World.setCell,Array.getElem?_modify,Ne.symm hk]
theorem VR.one {c:GV} {v:Value} (h:VR K c v) (hc:c.one=true):v.oneCell'=true:=by
 cases h <;> first | rfl | simp [GV.one] at hc
theorem zeB {t:TypeId} {cs:List GV} {off sz:Nat} {ag:Bool} {g:GV} {b base:Nat} (h:zbP cs off sz ag=some g) (ha:zg9 P t=some ag) (hs:zaS P t=some sz)
 (hc:∀ (j:Nat) c,cs[j]?=some c→∃ u,K.w.cell? ⟨b,base+j,none⟩=some u∧VR K c u):∃ v,(loadVar t ⟨b,base+off,none⟩).run P K.w=.ok v K.w∧VR K g v:=by
 unfold zbP at h
 cases ag
 ·simp only [Bool.false_eq_true,if_false] at h
  obtain ⟨u,hu,hr⟩:=hc off g h
  exact ⟨u,by simp [loadVar,zbs ha,load,Sem.run,hu],hr⟩
 ·simp only [if_true] at h
  split at h
  ·rename_i hle
   injection h with h; subst h
   let f:Nat→Value:=fun j=>(K.w.cell? ⟨b,base+(off+j),none⟩).getD undef
   have hf:∀ j,j<sz→∃ c,cs[off+j]?=some c∧K.w.cell? ⟨b,base+(off+j),none⟩=some (f j)∧VR K c (f j):=by
    intro j hj
    have h1:off+j<cs.length:=by omega
    obtain ⟨u,hu,hr⟩:=hc (off+j) _ (List.getElem?_eq_getElem h1)
    have:f j=u:=by simp [f,hu]
    exact ⟨_,List.getElem?_eq_getElem h1,by rw [this]; exact hu,by rw [this]; exact hr⟩
   have hl:=run_loadCells (P:=P) (w:=K.w) ⟨b,base+off,none⟩ sz f (fun j hj=>by
    rw [zch,Nat.add_assoc]; obtain ⟨c,_,h2,_⟩:=hf j hj; exact h2)
   refine ⟨.agg ((List.range sz).map f).toArray,by simp [loadVar,zbs ha,zax hs,hl],.agg ?_ (fun i c v hc' hv=>?_)⟩
   ·simp; omega
   ·simp only [List.getElem?_take,List.getElem?_drop] at hc'
    split at hc'
    ·rename_i hi
     obtain ⟨c2,h2,_,h3⟩:=hf i hi
     rw [h2] at hc'; injection hc' with hc'; subst hc'
     simp [List.getElem?_range hi] at hv
     rw [← hv]; exact h3
    ·cases hc'
  ·cases h
theorem CR.cells {cs:List GV} {vs:Array Value} (h:CR K cs vs) {b:Nat} {t:TypeId} {fr:Nat × Nat} (hb:K.w.heap[b]?=some (.cells vs t fr)):∀ (j:Nat) c,cs[j]?=some c→∃ u,K.w.cell? ⟨b,0+j,none⟩=some u∧VR K c u:=by
 intro j c hc
 obtain ⟨u,hu,hr⟩:=h.get hc
 exact ⟨u,by simp [World.cell?,hb,hu],hr⟩
theorem zhT (fr:FR K lam nt e a) {s g:Nat} {cs:List GV} (h:zef e s g=some cs):zag e.s s=.lbox g cs∧∃ b vs elem,lam g=some b∧K.w.heap[b]?=some (.cells vs elem (0,0))∧CR K cs vs∧a.tmps.getD s undef=.pointer (some ⟨b,0,none⟩):=by
 unfold zef at h
 split at h
 ·rename_i g' cs' hg
  split at h
  ·rename_i e1; subst e1
   injection h with h; subst h
   have hs:=fr.slot s
   rw [hg] at hs
   obtain ⟨b,vs,elem,h1,h2,h3,h4,h5⟩:=hs
   exact ⟨hg,b,vs,elem,h1,h3,⟨h4,h5⟩,h2⟩
  ·cases h
 ·cases h
theorem zhU (hr:HR ro K H) (fr:FR K lam nt e a) {t:TypeId} {sz:Nat} {ag:Bool} {x g:GV} {u:Value} (h:zdD e H sz ag x=some g) (ha:zg9 P t=some ag) (hs:zaS P t=some sz) (hx:SR K lam x u) :
 ∃ b o v,u=.pointer (some ⟨b,o,none⟩)∧(loadVar t ⟨b,o,none⟩).run P K.w=.ok v K.w∧VR K g v:=by
 unfold zdD at h
 split at h
 ·rename_i s gg off
  simp only [Option.bind_eq_some_iff] at h
  obtain ⟨cs,h1,h2⟩:=h
  obtain ⟨_,b,vs,elem,h3,h4,h5,_⟩:=zhT fr h1
  obtain ⟨b',h6,h7⟩:=hx
  rw [h3] at h6; injection h6 with h6; subst h6
  obtain ⟨v,h8,h9⟩:=zeB (P:=P) (b:=b) (base:=0) h2 ha hs (h5.cells h4)
  exact ⟨b,off,v,h7,by simpa using h8,h9⟩
 ·rename_i cs off
  cases hx with
  | @el _ _ b base oo cv ho hI hv =>
  obtain ⟨v,h8,h9⟩:=zeB (P:=P) (b:=b) (base:=base) h ha hs (fun j c hc=>⟨cv j,(hI j c hc).2,hv j c hc⟩)
  exact ⟨b,oo,v,rfl,by rw [ho]; exact h8,h9⟩
 ·rename_i id off
  split at h
  ·rename_i cs ho
   obtain ⟨b,vs,elem,frz,h1,h2,h3,h4,h5⟩:=hr.obj id _ ho
   cases hx with
   | @ptr _ _ b' o' hid hp =>
   obtain ⟨rfl,rfl⟩:=hp b h1
   obtain ⟨v,h8,h9⟩:=zeB (P:=P) (b:=b) (base:=0) h ha hs (CR.cells ⟨h4,h5⟩ h2)
   exact ⟨b,o',v,rfl,by simpa using h8,h9⟩
  ·rename_i cs ho
   obtain ⟨_,_,b,vs,h1,h2,h3,h4,h5⟩:=hr.obj id _ ho
   cases hx with
   | @ptr _ _ b' o' hid hp =>
   obtain ⟨rfl,rfl⟩:=hp b h1
   obtain ⟨v,h8,h9⟩:=zeB (P:=P) (b:=b) (base:=0) h ha hs (fun j c hc=>by
    have hj:j<vs.size:=Nat.lt_of_lt_of_le (List.getElem?_eq_some_iff.1 hc).1 h4
    exact ⟨vs[j],by simp [World.cell?,h2,hj],h5 j c _ hc (by simp [hj])⟩)
   exact ⟨b,o',v,rfl,by simpa using h8,h9⟩
  ·cases h
 ·cases h
theorem zsM (hr:HR ro K H) (fr:FR K lam nt e a) {t:TypeId} {sz:Nat} {ag:Bool} {x:Operand} {s:Src} {g:GV} (ho:o.op=.load t x) (hs:zbM ro x=some s) (hsz:zaS P t=some sz) (ha:zg9 P t=some ag)
 (hg:zdD e H sz ag (zac e s)=some g):za7 P K lam a o g:=by
 obtain ⟨q1,p1⟩:=zaa hr fr hs
 obtain ⟨b,oo,v,h1,h2,h3⟩:=zhU hr fr hg ha hsz q1
 exact ⟨v,by simp [execOp,ho,Instr.loadAt,h1,Instr.sureAddr,h2],SR.of h3,zai h3.ok⟩
theorem zfd {b off:Nat} {vs:Array Value} {t:TypeId} {us:Array Value} (hb:K.w.heap[b]?=some (.cells vs t (0,0))) (hle:off+us.size≤vs.size) (h1:∀ u∈us.toList,u.oneCell'=true) :
 (storeCells ⟨b,off,none⟩ us.toList).run P K.w=.ok () (K.w.setCells b off us.toList):=by
 have:=run_storeCells_cells (P:=P) b off us.toList 0 K.w (fun j hj=>by
  have:off+j<vs.size:=by simp at hj; omega
  simp [World.cell?,hb,this]) (fun j hj=>by simp [World.frozen?,hb]) h1
 simpa using this
theorem zhk {x:GV} {u:Value} (h:VR K x u) (hf:x.flat=true):∀ v∈u.cells.toList,v.oneCell'=true:=by
 intro v hv
 obtain ⟨i,hi⟩:=List.mem_iff_getElem?.1 hv
 have hc:=h.cells
 have hi':u.cells[i]?=some v:=by simpa using hi
 have hlt:i<x.cells.length:=by rw [hc.1]; exact (Array.getElem?_eq_some_iff.1 hi').1
 have hm:=List.getElem?_eq_getElem hlt
 have hr:=hc.2 i _ v hm hi'
 refine hr.one ?_
 simp only [GV.flat,List.all_eq_true] at hf
 exact hf _ (List.mem_of_getElem? hm)
end
structure WSet (w w':World) (b:Nat):Prop where
 size:w'.heap.size=w.heap.size
 tape:w'.tape=w.tape
 os:w'.os=w.os
 output:w'.output=w.output
 old:∀ k,k≠b→w'.heap[k]?=w.heap[k]?
 drawn:Facts.mono→w.drawn≤w'.drawn
def Ctx.at (K:Ctx) (w:World):Ctx:={ K with w:=w }
section
variable {P:Program} {ro:Nat} {hp:List Nat} {K:Ctx} {H:GH} {lam:Nat→Option Nat} {nt:Nat} {e:Env} {a:Act} {o:Oper} {B gk:Nat}
theorem WSet.cell {w w':World} {b:Nat} (h:WSet w w' b) {k oo:Nat} (hk:k≠b):w'.cell? ⟨k,oo,none⟩=w.cell? ⟨k,oo,none⟩:=by
 simp [World.cell?,h.old k hk]
theorem zda (b:Nat):∀ (us:List Value) (o:Nat) (w:World),(w.setCells b o us).drawn=w.drawn
 | [],_,_=>rfl
 | v::us,o,w=>by rw [World.setCells,zda b us]; rfl
theorem zaV {w:World} {b off:Nat} {vs:Array Value} {t:TypeId} {fr:Nat × Nat} {us:List Value} (hb:w.heap[b]?=some (.cells vs t fr)) (hle:off+us.length≤vs.size):WSet w (w.setCells b off us) b:=by
 obtain ⟨_,h2,h3,h4,h5,h6⟩:=zaH b us off w vs t fr hb hle
 exact ⟨h3,h4,h5,h6,h2,fun _=>Nat.le_of_eq (zda b us off w).symm⟩
theorem HR.loc_set (hr:HR ro K H) {b:Nat} (hb:K.ρ b) {w':World} (h:WSet K.w w' b):HR ro (K.at w') H∧∀ L:Nat→Prop,L b→Ext L H.bo H.bt K (K.at w'):=by
 have hφ:∀ id,K.φ id≠some b:=fun id e=>(hr.dom id b e).2.2.1 hb
 have hτ:∀ t ti,K.τ t=some ti→ti.b≠b:=fun t ti ht e=>(hr.tok t ti ht).2.2.2.1 (e ▸ hb)
 have x:∀ L:Nat→Prop,L b→Ext L H.bo H.bt K (K.at w'):=fun L hL =>
  ⟨rfl,Nat.le_refl _,by simp [Ctx.at,h.size],h.tape,h.os,h.output,h.drawn,fun _ _ _ h=>h,fun _ _=>rfl,
    fun k oo hi=>by
     have hk:k≠b:=fun e=>hi.2.1 (e ▸ hb)
     exact ⟨⟨by simp only [Ctx.at,h.size]; exact hi.1,hi.2.1,hi.2.2.1,hi.2.2.2⟩,h.cell hk⟩,
    fun k hk=>⟨hk,fun hl=>h.old k (fun e=>hl (e ▸ hL))⟩,
    fun k hk=>h.old k (fun e=>by have:=(hr.loc b hb).1; omega),
    fun t p hp=>⟨p,hp,Nat.le_refl _,fun _=>rfl⟩,
    fun id _ _=>⟨rfl,fun c hc=>h.old c (fun e=>hφ id (e ▸ hc))⟩,
    fun t _ _=>⟨rfl,rfl,fun ti hti=>h.old ti.b (hτ t ti hti)⟩⟩
 refine ⟨⟨hr.nO,hr.toks,hr.bo,hr.bt,fun id o ho=>?_,hr.inj,fun id c hc=>?_,hr.glob,hr.roN,fun t ti ht=>?_,hr.tinj,by simp only [Ctx.at,h.size]; exact hr.size,fun k hk=>?_,hr.to rfl (x (fun k=>k=b) rfl).below⟩,x⟩
 ·exact (hr.obj id o ho).ext (x (fun k=>k=b) rfl) rfl (fun c hc=>h.old c (fun e=>hφ id (e ▸ hc)))
 ·obtain ⟨h1,h2,h3,h4⟩:=hr.dom id c hc
  exact ⟨h1,by simp only [Ctx.at,h.size]; exact h2,h3,h4⟩
 ·obtain ⟨h1,h2,h3,h4,h5,cur,lo,hi,h6,h7⟩:=hr.tok t ti ht
  exact ⟨h1,by simp only [Ctx.at,h.size]; exact h2,h3,h4,h5,cur,lo,hi,(h.old ti.b (hτ t ti ht)).trans h6,h7⟩
 ·simp only [Ctx.at,h.size]; exact hr.loc k hk
theorem HR.obj_set (hr:HR ro K H) {id b:Nat} (hid:K.φ id=some b) (hbo:H.bo≤id) {w':World} (h:WSet K.w w' b) {o:GObj} (ho:ObjR (K.at w') ro id o) :
 HR ro (K.at w') { H with objs:=H.objs.set id o }∧Ext (fun _=>False) H.bo H.bt K (K.at w'):=by
 obtain ⟨d1,d2,d3,d4⟩:=hr.dom id b hid
 have hN:K.N≤b:=d4 (Nat.le_trans hr.bo hbo)
 have hφ:∀ id' c,K.φ id'=some c→id'≠id→c≠b:=fun id' c hc hne e=>hne (hr.inj id' id b (e ▸ hc) hid)
 have hτ:∀ t ti,K.τ t=some ti→ti.b≠b:=fun t ti ht e=>(hr.tok t ti ht).2.2.2.2.1 id (e ▸ hid)
 have x:Ext (fun _=>False) H.bo H.bt K (K.at w') :=
  ⟨rfl,Nat.le_refl _,by simp [Ctx.at,h.size],h.tape,h.os,h.output,h.drawn,fun _ _ _ h=>h,fun _ _=>rfl,
    fun k oo hi=>by
     have hk:k≠b:=fun e=>hi.2.2.1 id (e ▸ hid)
     exact ⟨⟨by simp only [Ctx.at,h.size]; exact hi.1,hi.2.1,hi.2.2.1,hi.2.2.2⟩,h.cell hk⟩,
    fun k hk=>⟨hk,fun _=>h.old k (fun e=>d3 (e ▸ hk))⟩,
    fun k hk=>h.old k (fun e=>by omega),
    fun t p hp=>⟨p,hp,Nat.le_refl _,fun _=>rfl⟩,
    fun id' h1 _=>⟨rfl,fun c hc=>h.old c (hφ id' c hc (by omega))⟩,
    fun t _ _=>⟨rfl,rfl,fun ti hti=>h.old ti.b (hτ t ti hti)⟩⟩
 refine ⟨⟨by simp [hr.nO,Ctx.at],hr.toks,hr.bo,hr.bt,fun id' o' ho'=>?_,hr.inj,fun id' c hc=>?_,hr.glob,hr.roN,fun t ti ht=>?_,hr.tinj,by simp only [Ctx.at,h.size]; exact hr.size,fun k hk=>?_,hr.to rfl x.below⟩,x⟩
 ·by_cases he:id'=id
  ·subst he
   have:id'<H.objs.length:=by rw [hr.nO]; exact d1
   simp [this] at ho'; subst ho'; exact ho
  ·simp only [List.getElem?_set,Ne.symm he,if_false] at ho'
   exact (hr.obj id' o' ho').ext x rfl (fun c hc=>h.old c (hφ id' c hc he))
 ·obtain ⟨h1,h2,h3,h4⟩:=hr.dom id' c hc
  exact ⟨h1,by simp only [Ctx.at,h.size]; exact h2,h3,h4⟩
 ·obtain ⟨h1,h2,h3,h4,h5,cur,lo,hi,h6,h7⟩:=hr.tok t ti ht
  exact ⟨h1,by simp only [Ctx.at,h.size]; exact h2,h3,h4,h5,cur,lo,hi,(h.old ti.b (hτ t ti ht)).trans h6,h7⟩
 ·simp only [Ctx.at,h.size]; exact hr.loc k hk
theorem StepOk.own (fr:FR K lam nt e a) (hr:HR ro K H) (hB:e.gen≤B) {b g s n':Nat} {x v:GV} {rv:Value} {w':World} (hg:lam g=some b) (hbox:zdE (zag e.s s) g) (h:WSet K.w w' b)
 (hrun:(execOp a.eval o).run P K.w=.ok (.value rv) w'∨((execOp a.eval o).run P K.w=.ok .skip w'∧rv=undef))
 (hx:SR (K.at w') lam x (a.tmps.getD s undef)) (hxb:∀ k,zdE x k→k=g) (hv:SR (K.at w') lam v rv) (hvp:zmN v):StepOk P ro K lam nt e a o H ⟨v,some (s,x),H,n'⟩ B gk:=by
 obtain ⟨hr',xx⟩:=hr.loc_set (fr.lamρ g b hg) h
 have x1:=xx (Own lam) ⟨g,hg⟩
 refine ⟨K.at w',lam,rv,hrun,hr',x1,fun _ _ h=>h,fun _ _ h=>.inl h,fun _ _=>rfl,fun dst hd=>?_⟩
 refine fr.step (m:=some g) (B:=B) x1 (fun _ _ h=>h) (fun n b h=>fr.lamρ n b h) fr.linj (fun n hn=>fr.gen n (by omega)) (fun n c hn hne=>h.old c (fun e=>?_)) hd hv (fun n hn=>absurd hn (hvp n))
  (fun n hn=>?_) (fun s' x' hx'=>?_)
 ·exact hne (by rw [fr.linj n g b (e ▸ hn) hg])
 ·injection hn with hn; subst hn; exact ⟨s,x,rfl,hbox⟩
 ·injection hx' with hx'; injection hx' with e1 e2; subst e1 e2
  exact ⟨hx,g,hbox,hxb⟩
theorem zmT (hr:HR ro K H) (fr:FR K lam nt e a) (hB:e.gen≤B) {t:TypeId} {sz:Nat} {x y:Operand} {l:List Src} {sl g off n':Nat} {cs cs':List GV} {v:GV} (ho:o.op=.store t x y) (hs:zbn ro [x,y]=some l) (hsz:zaS P t=some sz)
 (hl:l.map (zac e)=[.laddr sl g off,v]) (hok:v.ok=true) (hfl:v.flat=true) (hlen:v.cells.length=sz) (hd:zef e sl g=some cs) (hp:zae cs off v.cells=some cs') :
 StepOk P ro K lam nt e a o H ⟨.junk,some (sl,.lbox g cs'),H,n'⟩ B gk:=by
 obtain ⟨s,u,h1,h2,rfl⟩:=zbj hs
 obtain ⟨q1,p1⟩:=zaa hr fr h1
 obtain ⟨q2,p2⟩:=zaa hr fr h2
 simp only [List.map_cons,List.map_nil,List.cons.injEq,and_true] at hl
 rw [hl.1] at q1
 rw [hl.2] at q2
 have hvr:=q2.vr hok
 obtain ⟨hb0,b,vs,elem,h3,h4,h5,h6⟩:=zhT fr hd
 obtain ⟨b',h7,h8⟩:=q1
 rw [h3] at h7; injection h7 with h7; subst h7
 obtain ⟨h9,h10⟩:=zcf hp h5 hvr.cells
 have hst:=zfd (P:=P) h4 h9 (zhk hvr hfl)
 have hle:off+(a.eval y).cells.toList.length≤vs.size:=by simpa using h9
 have hw:=zaV h4 hle
 obtain ⟨⟨cur',c1,c2,c3⟩,_⟩:=zaH b (a.eval y).cells.toList off K.w vs elem (0,0) h4 hle
 have hcr:=h10 cur' c2 (fun i=>by rw [c3 i]; simp)
 refine StepOk.own (rv:=undef) fr hr hB h3 (by rw [hb0]; rfl) hw (.inr ⟨?_,rfl⟩) ?_ (fun k hk=>hk.symm) trivial (fun n hn=>hn)
 ·have hsize:(a.eval y).cells.size=sz:=by rw [← hvr.cells.1]; exact hlen
  simp [execOp,ho,Instr.storeAt,h8,Instr.sureAddr,storeVar,zax hsz,hsize,hst]
 ·rw [h6]
  have x1:=(hr.loc_set (fr.lamρ g b h3) hw).2 (fun k=>k=b) rfl
  exact zmQ (t:=elem) h3 c1 (hcr.ext x1)
theorem zmU (hr:HR ro K H) (fr:FR K lam nt e a) (hB:e.gen≤B) {t:TypeId} {sz:Nat} {x y:Operand} {l:List Src} {id off n' ty:Nat} {cs cs':List GV} {v:GV} (ho:o.op=.store t x y) (hs:zbn ro [x,y]=some l) (hsz:zaS P t=some sz)
 (hl:l.map (zac e)=[.ptr id off,v]) (hok:v.ok=true) (hfl:v.flat=true) (hlen:v.cells.length=sz) (hd:H.objs[id]?=some (.cells ty cs)) (hbo:H.bo≤id) (hp:zae cs off v.cells=some cs') :
 StepOk P ro K lam nt e a o H ⟨.junk,none,{ H with objs:=H.objs.set id (.cells ty cs') },n'⟩ B gk:=by
 obtain ⟨s,u,h1,h2,rfl⟩:=zbj hs
 obtain ⟨q1,p1⟩:=zaa hr fr h1
 obtain ⟨q2,p2⟩:=zaa hr fr h2
 simp only [List.map_cons,List.map_nil,List.cons.injEq,and_true] at hl
 rw [hl.1] at q1
 rw [hl.2] at q2
 have hvr:=q2.vr hok
 obtain ⟨b,vs,elem,frz,h3,h4,h5,h6,h6'⟩:=hr.obj id _ hd
 obtain ⟨he,h5⟩:=h5
 have:=h5 (Nat.le_trans hr.bo hbo)
 subst this
 subst he
 cases hq:a.eval x <;> rw [hq] at q1 <;> try (cases q1; done)
 cases q1 with
 | @ptr _ _ b' o' hid hpp =>
 obtain ⟨rfl,rfl⟩:=hpp b h3
 have hc:CR K cs vs:=⟨h6,h6'⟩
 obtain ⟨h9,h10⟩:=zcf hp hc hvr.cells
 have hst:=zfd (P:=P) h4 h9 (zhk hvr hfl)
 have hle:o'+(a.eval y).cells.toList.length≤vs.size:=by simpa using h9
 have hw:=zaV h4 hle
 obtain ⟨⟨cur',c1,c2,c3⟩,_⟩:=zaH b (a.eval y).cells.toList o' K.w vs elem (0,0) h4 hle
 have hcr:=h10 cur' c2 (fun i=>by rw [c3 i]; simp)
 have hsize:(a.eval y).cells.size=sz:=by rw [← hvr.cells.1]; exact hlen
 have hrun:(execOp a.eval o).run P K.w=.ok .skip (K.w.setCells b o' (a.eval y).cells.toList):=by
  simp [execOp,ho,Instr.storeAt,hq,Instr.sureAddr,storeVar,zax hsz,hsize,hst]
 -- the context's step,once for its Ext,then for the object
 have x0:Ext (fun _=>False) H.bo H.bt K (K.at (K.w.setCells b o' (a.eval y).cells.toList)):=(hr.obj_set h3 hbo hw (o:=.dead) trivial).2
 have hcr':=hcr.ext x0
 obtain ⟨hr',x1⟩:=hr.obj_set h3 hbo hw (o:=.cells elem cs') ⟨b,cur',elem,(0,0),h3,c1,⟨rfl,fun _=>rfl⟩,hcr'.1,hcr'.2⟩
 refine ⟨_,lam,undef,.inr ⟨hrun,rfl⟩,hr',x1.none,fun _ _ h=>h,fun _ _ h=>.inl h,fun _ _=>rfl,fun dst hd=>?_⟩
 exact fr.step (m:=none) (B:=B) x1 (fun _ _ h=>h) (fun n b h=>(x1.loc b (fr.lamρ n b h)).1) fr.linj (fun n hn=>fr.gen n (by omega)) (fun n b h _=>(x1.loc b (fr.lamρ n b h)).2 (fun h=>h.elim)) hd trivial
  (fun n hn=>absurd hn (fun h=>h)) (fun n h=>by cases h) (fun s g h=>by cases h)
theorem zlm (hr:HR ro K H) (fr:FR K lam nt e a) (hB:e.gen≤B) {x:Operand} {s:Src} {sl g n':Nat} {t:ByteArray} {pos:Nat} (ho:o.op=.next x true) (hs:zbM ro x=some s) (hv:zac e s=.laddr sl g 0) (hi:zag e.s sl=.siter g t pos) :
 (pos<t.size→StepOk P ro K lam nt e a o H ⟨.tup [.bool true,.int .i64 pos,.int .i32 (Utf8.decode t pos).1],some (sl,.siter g t (pos+(Utf8.decode t pos).2)),H,n'⟩ B gk) ∧
 (¬ pos<t.size→StepOk P ro K lam nt e a o H ⟨.tup [.bool false],none,H,n'⟩ B gk):=by
 obtain ⟨q1,p1⟩:=zaa hr fr hs
 rw [hv] at q1
 obtain ⟨b,h1,h2⟩:=q1
 have hsl:=fr.slot sl
 rw [hi] at hsl
 obtain ⟨b',h3,h4,h5⟩:=hsl
 rw [h1] at h3; injection h3 with h3; subst h3
 have hlt:b<K.w.heap.size:=(hr.loc b (fr.lamρ g b h1)).2
 refine ⟨fun hp=>?_,fun hp=>?_⟩
 ·have hw:WSet K.w { K.w with heap:=K.w.heap.setIfInBounds b (.stringIter t (pos+(Utf8.decode t pos).2)) } b :=
   ⟨by simp,rfl,rfl,rfl,fun k hk=>by simp [Array.getElem?_setIfInBounds_ne (Ne.symm hk)],fun _=>Nat.le_refl _⟩
  refine StepOk.own (rv:=.tuple #[.bool true,goInt pos,.int .i32 (Utf8.decode t pos).1]) fr hr hB h1 (by rw [hi]; rfl) hw (.inl ?_) ?_ (fun k hk=>hk.symm) ?_ (fun n hn=>hn)
  ·simp [execOp,ho,h2,Instr.next,getObj,Sem.run,h5,hp,setObj]
  ·rw [h4]; exact ⟨b,h1,rfl,by simp [Ctx.at,hlt]⟩
  ·refine SR.of (.tup rfl (fun i c v hc hv=>?_))
   match i with
   | 0=>simp at hc hv; subst hc hv; exact .bool _
   | 1=>simp at hc hv; subst hc hv; exact .int _ _
   | 2=>simp at hc hv; subst hc hv; exact .int _ _
   | i+3=>simp at hc
 ·refine zaQ hr fr hB ⟨.tuple #[.bool false], ?_, ?_,fun n hn=>hn⟩
  ·simp [execOp,ho,h2,Instr.next,getObj,Sem.run,h5,hp]
  ·refine SR.of (.tup rfl (fun i c v hc hv=>?_))
   match i with
   | 0=>simp at hc hv; subst hc hv; exact .bool _
   | i+1=>simp at hc
end
def fl (xs:List GV):List GV:=xs.flatMap GV.cells
theorem za8 {xs:List GV} {sz:Nat} (h:∀ x,x∈xs→x.cells.length=sz):(fl xs).length=xs.length * sz:=by
 induction xs with
 | nil=>simp [fl]
 | cons x xs ih =>
  have h1:=ih (fun y hy=>h y (by simp [hy]))
  simp only [fl,List.flatMap_cons,List.length_append,List.length_cons] at h1 ⊢
  rw [h1,h x (by simp),Nat.add_mul]; omega
theorem zjq {xs:List GV} {sz:Nat} (h:∀ x,x∈xs→x.cells.length=sz) (i:Nat) (x:GV) (hx:xs[i]?=some x) (j:Nat) (hj:j<sz):(fl xs)[i * sz+j]?=x.cells[j]?:=by
 induction xs generalizing i with
 | nil=>simp at hx
 | cons y xs ih =>
  have hy:=h y (by simp)
  cases i with
  | zero =>
   simp at hx; subst hx
   simp only [fl,List.flatMap_cons,Nat.zero_mul,Nat.zero_add]
   rw [List.getElem?_append_left (by omega)]
  | succ i =>
   simp at hx
   have h1:=ih (fun z hz=>h z (by simp [hz])) i hx
   simp only [fl,List.flatMap_cons] at h1 ⊢
   rw [List.getElem?_append_right (by rw [hy,Nat.add_mul]; omega)]
   have e1:(i+1) * sz+j - y.cells.length=i * sz+j:=by rw [hy,Nat.add_mul]; omega
   rw [e1]; exact h1
theorem zx5 (x:GV) (xs:List GV):fl (x::xs)=x.cells++fl xs:=by simp [fl]
theorem zdm (xs ys:List GV):fl (xs++ys)=fl xs++fl ys:=by simp [fl]
section
variable {P:Program} {ro:Nat} {hp:List Nat} {K:Ctx} {H:GH} {lam:Nat→Option Nat} {nt:Nat} {e:Env} {a:Act} {o:Oper} {B gk:Nat}
theorem zkc (hr:HR ro K H) {w':World} (hg:WGrow K.w w') (hlt:K.w.heap.size<w'.heap.size):Fresh K (K.at w') K.w.heap.size where
 hnb:=rfl
 grow:=hg
 lt:=hlt
 N:=rfl
 nO:=Nat.le_refl _
 φ:=fun id b h=>.inl h
 φ':=fun _ _=>rfl
 κ:=fun _ _=>rfl
 τ:=fun t ti h=>.inl h
 ρ:=fun _ h=>h
 ρ':=fun _ h=>.inl h
 tok:=fun t p h=>⟨p,h,Nat.le_refl _,fun _=>rfl⟩
theorem VR.flat {sz:Nat} {xs:List GV} {tag:Tag} {b off len cap:Nat} (h:VR K (.sl sz xs tag) (.slice (some ⟨b,off,none⟩) len cap)) :
 ∃ vs:List Value,vs.length=xs.length * sz∧CR K (fl xs) vs.toArray∧∀ (k:Nat) u,vs[k]?=some u→K.w.cell? ⟨b,off+k,none⟩=some u∧Imm K b (off+k)∧u.oneCell'=true:=by
 cases h with
 | emp=>exact ⟨[],by simp,⟨rfl,fun i c v hc=>by simp [fl] at hc⟩,fun k u hu=>by simp at hu⟩
 | @sl _ _ _ _ _ _ cv hcap hmax hsz hI hv htag =>
 have hsz':∀ x,x∈xs→x.cells.length=sz:=fun x hx=>(hsz x hx).1
 have key:∀ k,k<xs.length * sz→∃ x c,xs[k / sz]?=some x∧x.cells[k % sz]?=some c∧(fl xs)[k]?=some c∧c.one=true∧k / sz * sz+k % sz=k:=by
  intro k hk
  have hz:0<sz:=Nat.pos_of_ne_zero (fun e=>by rw [e] at hk; omega)
  have h1:k / sz<xs.length:=Nat.div_lt_of_lt_mul (by rw [Nat.mul_comm]; exact hk)
  have h2:k % sz<sz:=Nat.mod_lt _ hz
  have h3:=List.getElem?_eq_getElem h1
  have h4:=hsz _ (List.mem_of_getElem? h3)
  have h5:k % sz<xs[k / sz].cells.length:=by rw [h4.1]; exact h2
  have h6:=List.getElem?_eq_getElem h5
  have h7:k / sz * sz+k % sz=k:=by rw [Nat.mul_comm]; exact Nat.div_add_mod k sz
  have h8:=zjq hsz' (k / sz) _ h3 (k % sz) h2
  rw [h7,h6] at h8
  have h9:=h4.2
  simp only [GV.flat,List.all_eq_true] at h9
  exact ⟨_,_,h3,h6,h8,h9 _ (List.mem_of_getElem? h6),h7⟩
 refine ⟨(List.range (xs.length * sz)).map fun k=>cv (k / sz) (k % sz),by simp,⟨by simp [za8 hsz'],fun k c v hc hvv=>?_⟩,fun k u hu=>?_⟩
 ·have hk:k<xs.length * sz:=by rw [← za8 hsz']; exact (List.getElem?_eq_some_iff.1 hc).1
  obtain ⟨x,c',h1,h2,h3,_,_⟩:=key k hk
  rw [h3] at hc; injection hc with hc; subst hc
  simp [List.getElem?_range hk] at hvv
  rw [← hvv]; exact hv _ x _ c' h1 h2
 ·have hk:k<xs.length * sz:=by
   have:=(List.getElem?_eq_some_iff.1 hu).1
   simpa using this
  obtain ⟨x,c',h1,h2,h3,h4,h5⟩:=key k hk
  simp [List.getElem?_range hk] at hu
  obtain ⟨i1,i2⟩:=hI _ x _ c' h1 h2
  have e1:off+k / sz * sz+k % sz=off+k:=by omega
  rw [e1] at i1 i2
  rw [← hu]
  exact ⟨i2,i1,(hv _ x _ c' h1 h2).one h4⟩
theorem VR.mk {sz:Nat} {xs:List GV} {tag:Tag} {b off cap:Nat} (hcap:xs.length≤cap) (hmax:cap≤maxLen) (hsz:∀ x,x∈xs→x.cells.length=sz∧x.flat=true)
 (hc:∀ (k:Nat) c,(fl xs)[k]?=some c→∃ v,K.w.cell? ⟨b,off+k,none⟩=some v∧Imm K b (off+k)∧VR K c v) (htag:TagOk K tag b off xs.length cap sz):VR K (.sl sz xs tag) (.slice (some ⟨b,off,none⟩) xs.length cap):=by
 have hsz':∀ x,x∈xs→x.cells.length=sz:=fun x hx=>(hsz x hx).1
 have key:∀ i x j c,xs[i]?=some x→x.cells[j]?=some c→∃ v,K.w.cell? ⟨b,off+i * sz+j,none⟩=some v∧Imm K b (off+i * sz+j)∧VR K c v:=by
  intro i x j c hx hj
  have hjl:j<sz:=by rw [← hsz' x (List.mem_of_getElem? hx)]; exact (List.getElem?_eq_some_iff.1 hj).1
  have h1:=zjq hsz' i x hx j hjl
  rw [hj] at h1
  have:=hc (i * sz+j) c h1
  rw [← Nat.add_assoc] at this
  exact this
 refine .sl (cv:=fun i j=>(K.w.cell? ⟨b,off+i * sz+j,none⟩).getD undef) hcap hmax hsz (fun i x j c hx hj=>?_) (fun i x j c hx hj=>?_) htag
 ·obtain ⟨v,h1,h2,h3⟩:=key i x j c hx hj
  exact ⟨h2,by simp [h1]⟩
 ·obtain ⟨v,h1,h2,h3⟩:=key i x j c hx hj
  simp only [h1,Option.getD_some]; exact h3
theorem zcp (s:ByteArray):(zbf s).length=s.size:=by
 simp only [zbf,List.length_map,Array.length_toList]; rfl
theorem zfR (s:ByteArray):∀ x,x∈zbf s→x.cells.length=1∧x.flat=true:=by
 intro x hx
 simp only [zbf,List.mem_map] at hx
 obtain ⟨b,_,rfl⟩:=hx
 exact ⟨rfl,rfl⟩
theorem zkd (s:ByteArray):fl (zbf s)=zbf s:=by
 simp only [zbf,fl,List.flatMap_map]
 induction s.data.toList with
 | nil=>rfl
 | cons b l ih=>simp only [List.flatMap_cons,List.map_cons,ih]; rfl
theorem zvU (hr:HR ro K H) (fr:FR K lam nt e a) (hB:e.gen≤B) {u t el:TypeId} {x:Operand} {s:Src} {sb:ByteArray} {n':Nat} (ho:o.op=.convert u t x) (hu:P.underlying u=some .string) (ht:P.underlying t=some (.slice el)) (hel:P.underlying el=some (.int .u8))
 (hs:zbM ro x=some s) (hv:zac e s=.str sb) (hlen:sb.size≤maxLen):StepOk P ro K lam nt e a o H ⟨.sl 1 (zbf sb) .imm,none,H,n'⟩ B gk:=by
 obtain ⟨q1,p1⟩:=zaa hr fr hs
 rw [hv,zfO] at q1
 have hrun:=Lib.run_convert_string_bytes (P:=P) K.w u t el sb hu ht hel
 have hg:WGrow K.w (Lib.bytesWorld K.w el sb):=⟨by rw [Lib.bytesWorld_size]; omega,rfl,rfl,rfl,fun b hb=>Lib.bytesWorld_at_old K.w el sb b hb,fun _=>Nat.le_succ K.w.drawn⟩
 have hlt:K.w.heap.size<(Lib.bytesWorld K.w el sb).heap.size:=by rw [Lib.bytesWorld_size]; omega
 have hf:=zkc hr hg hlt
 have xx:=hf.ext hr (fun t _ _=>⟨rfl,rfl⟩) (fun _=>False)
 have hcap1:=grownCap_ge K.w sb.size 0 el
 have hcap2:=grownCap_le_maxLen K.w sb.size 0 el hlen
 have hvr:VR (K.at (Lib.bytesWorld K.w el sb)) (.sl 1 (zbf sb) .imm) (.slice (some ⟨K.w.heap.size,0,none⟩) (zbf sb).length (grownCap K.w sb.size 0 el)):=by
  refine VR.mk (by rw [zcp]; exact hcap1) hcap2 (zfR sb) (fun k c hc=>?_) trivial
  rw [zkd] at hc
  have hk:k<sb.size:=by rw [← zcp]; exact (List.getElem?_eq_some_iff.1 hc).1
  have hcell:=Lib.bytesWorld_cell K.w el sb k hk
  simp only [zbf,List.getElem?_map,Option.map_eq_some_iff] at hc
  obtain ⟨y,hy,rfl⟩:=hc
  have e1:sb.data.toList.getD k 0=y:=by simp [List.getD,hy]
  rw [e1] at hcell
  refine ⟨_,by simpa [Ctx.at] using hcell,⟨by simpa [Ctx.at] using hlt,fun h=>?_,fun id h=>?_,fun t ti h h'=>?_⟩,.int _ _⟩
  ·have:=(hr.loc _ h).2; omega
  ·have:=(hr.dom _ _ h).2.1; omega
  ·have:=(hr.tok _ _ h).2.1; omega
 rw [zcp] at hvr
 exact StepOk.plain (K':=K.at (Lib.bytesWorld K.w el sb)) fr hr hB (by simp [execOp,ho,q1,hrun,Ctx.at]) (hr.fresh hf rfl rfl rfl rfl) xx (SR.of hvr) (fun n hn=>hn) rfl
theorem zx6 (hr:HR ro K H) {w':World} (hlt:K.w.heap.size<w'.heap.size) (k:Nat):Imm (K.at w') K.w.heap.size k :=
 ⟨hlt,fun h=>by have:=(hr.loc _ h).2; omega,fun id h=>by have:=(hr.dom _ _ h).2.1; omega,fun t ti h h'=>by have:=(hr.tok _ _ h).2.1; omega⟩
theorem zfS (sz:Nat):∀ (l:List (Nat × GV)) (xs:List GV),(∀ p,p∈l→p.2.cells.length=sz∧p.2.flat=true)→(∀ x,x∈xs→x.cells.length=sz∧x.flat=true) →
 (zaj xs l).length=xs.length∧∀ x,x∈zaj xs l→x.cells.length=sz∧x.flat=true:=by
 intro l
 induction l with
 | nil=>intro xs _ h; exact ⟨rfl,h⟩
 | cons p l ih =>
  intro xs hl hx
  obtain ⟨h1,h2⟩:=ih (xs.set p.1 p.2) (fun q hq=>hl q (by simp [hq])) (fun x hxx=>by
   rcases List.mem_or_eq_of_mem_set hxx with h | h
   ·exact hx x h
   ·rw [h]; exact hl p (by simp))
  exact ⟨by rw [zaj,h1]; simp,h2⟩
theorem zjr (sz:Nat) (hz:0<sz):∀ (l:List (Nat × GV)) (xs:List GV),(∀ p,p∈l→p.2.cells.length=sz∧p.2.flat=true∧p.1<xs.length)→(∀ x,x∈xs→x.cells.length=sz∧x.flat=true) →
 za6 (fl xs) (l.map fun p=>((p.1 * sz,sz),p.2))=some (fl (zaj xs l)):=by
 intro l
 induction l with
 | nil=>intro xs _ _; rfl
 | cons p l ih =>
  intro xs hl hx
  obtain ⟨i,v⟩:=p
  obtain ⟨h1,h2,h3⟩:=hl (i,v) (by simp)
  have hx':∀ x,x∈xs→x.cells.length=sz:=fun x h=>(hx x h).1
  have hset:zae (fl xs) (i * sz) v.cells=some (fl (xs.set i v)):=by
   have hlen:=za8 hx'
   have hle:i * sz+v.cells.length≤(fl xs).length:=by
    simp only at h1
    rw [hlen,h1]
    have:(i+1) * sz≤xs.length * sz:=Nat.mul_le_mul_right _ h3
    rw [Nat.add_mul] at this; omega
   unfold zae
   rw [if_pos hle]
   congr 1
   have hsx:∀ x,x∈xs.set i v→x.cells.length=sz:=fun x hxx=>by
    rcases List.mem_or_eq_of_mem_set hxx with h | h
    ·exact hx' x h
    ·rw [h]; exact h1
   have e1:xs=xs.take i++xs[i]'h3::xs.drop (i+1):=by
    rw [← List.drop_eq_getElem_cons h3,List.take_append_drop]
   have e2:xs.set i v=xs.take i++v::xs.drop (i+1):=List.set_eq_take_append_cons_drop.trans (by rw [if_pos h3])
   have hti:(fl (xs.take i)).length=i * sz:=by
    rw [za8 (fun x hxx=>hx' x (List.mem_of_mem_take hxx))]
    congr 1; simp; omega
   have hxi:(xs[i]'h3).cells.length=sz:=hx' _ (List.getElem_mem h3)
   rw [e2,zdm]
   have e3:fl (v::xs.drop (i+1))=v.cells++fl (xs.drop (i+1)):=by simp [fl]
   have e4:fl xs=fl (xs.take i)++((xs[i]'h3).cells++fl (xs.drop (i+1))):=by
    have:=congrArg fl e1
    rw [zdm,zx5] at this
    exact this
   simp only at h1
   rw [e3,e4,List.append_assoc]
   congr 1
   ·rw [List.take_append_of_le_length (by omega),← hti,List.take_length]
   ·congr 1
    rw [h1,← List.append_assoc,← hti]
    have e5:(fl (xs.take i)).length+sz=(fl (xs.take i)++(xs[i]'h3).cells).length:=by rw [List.length_append,hxi]
    rw [e5,List.drop_left]
  simp only [List.map_cons,za6]
  simp only at h1
  rw [if_pos h1,hset]
  simp only [Option.bind_some,zaj]
  refine ih (xs.set i v) (fun q hq=>?_) (fun x hxx=>?_)
  ·obtain ⟨a1,a2,a3⟩:=hl q (by simp [hq])
   exact ⟨a1,a2,by simpa using a3⟩
  ·rcases List.mem_or_eq_of_mem_set hxx with h | h
   ·exact hx x h
   ·rw [h]; exact ⟨h1,h2⟩
end
section
variable {P:Program} {ro:Nat} {hp:List Nat} {K:Ctx} {H:GH} {lam:Nat→Option Nat} {nt:Nat} {e:Env} {a:Act} {o:Oper} {B gk:Nat}
theorem zln (hr:HR ro K H) (fr:FR K lam nt e a) (hB:e.gen≤B) {t el:TypeId} {len sz n':Nat} {ps:Array (Nat × Operand)} {z:GV} {srcs:List Src} (ho:o.op=.buildSlice t len ps) (ht:P.underlying t=some (.slice el)) (hsz:zaS P el=some sz) (hz:zcz P el=some z)
 (hle:len * sz≤2 ^ 24) (hzl:z.cells.length=sz) (hpos:0<sz) (hs:zbn ro (ps.toList.map (·.2))=some srcs) (hok:oks (srcs.map (zac e))=true) (hlen:(srcs.map (zac e)).length=ps.toList.length)
 (hcl:∀ v,v∈srcs.map (zac e)→v.cells.length=sz∧v.flat=true) (hidx:∀ i,i∈ps.toList.map (·.1)→i<len) (hzf:z.flat=true) :
 StepOk P ro K lam nt e a o H ⟨.sl sz (zaj (List.replicate len z) ((ps.toList.map (·.1)).zip (srcs.map (zac e)))) .exact,none,H,n'⟩ B gk:=by
 obtain ⟨h1,h2⟩:=zei hr fr hs
 obtain ⟨zv,hzv,hzr⟩:=zc2 hz
 have hzc:=(zaP K _ _ _ hzv).cells
 have hzs:zv.cells.size=sz:=by rw [← hzc.1]; exact hzl
 have hrep:∀ x,x∈List.replicate len z→x.cells.length=sz∧x.flat=true:=fun x hx=>by rw [List.eq_of_mem_replicate hx]; exact ⟨hzl,hzf⟩
 have hl:∀ p,p∈(ps.toList.map (·.1)).zip (srcs.map (zac e))→p.2.cells.length=sz∧p.2.flat=true∧p.1<(List.replicate len z).length:=fun p hp=>by
  have hm:=List.of_mem_zip hp
  exact ⟨(hcl _ hm.2).1,(hcl _ hm.2).2,by rw [List.length_replicate]; exact hidx _ hm.1⟩
 have hfl:=zjr sz hpos _ _ hl hrep
 obtain ⟨g1,g2⟩:=zfS sz _ _ (fun p hp=>⟨(hl p hp).1,(hl p hp).2.1⟩) hrep
 rw [List.length_replicate] at g1
 generalize hxs:zaj (List.replicate len z) ((ps.toList.map (·.1)).zip (srcs.map (zac e)))=xs at *
 -- the zero cells
 let cells0:Array Value:=(Array.range (len * sz)).map (zv.cells[· % zv.cells.size]!)
 have hc0:CR K (fl (List.replicate len z)) cells0:=by
  have hrl:=za8 (fun x hx=>(hrep x hx).1)
  rw [List.length_replicate] at hrl
  refine ⟨by simp [cells0,hrl],fun k c v hc hv=>?_⟩
  have hk:k<len * sz:=by rw [← hrl]; exact (List.getElem?_eq_some_iff.1 hc).1
  have hd:k / sz<len:=Nat.div_lt_of_lt_mul (by rw [Nat.mul_comm]; exact hk)
  have hm:k % sz<sz:=Nat.mod_lt _ hpos
  have h3:=zjq (fun x hx=>(hrep x hx).1) (k / sz) z (by simp [hd]) (k % sz) hm
  have e1:k / sz * sz+k % sz=k:=by rw [Nat.mul_comm]; exact Nat.div_add_mod k sz
  rw [e1,hc] at h3
  have hm2:k % sz<zv.cells.size:=by omega
  simp [cells0,hk,hzs] at hv
  exact hzc.2 _ c v h3.symm (by rw [← hv]; simp [hm2])
 obtain ⟨ys,f1,f2⟩:=zfb (K:=K) (fun i=>some (i * sz,sz)) (fl (List.replicate len z)) (((ps.toList.map (·.1)).zip (srcs.map (zac e))).map fun p=>((p.1 * sz,sz),p.2)) (fl xs) cells0
  (ps.toList.map fun p=>(p.1,a.eval p.2)) hfl hc0 (by simp at hlen ⊢; omega) (fun j q g k v hq hv=>by
    simp only [List.getElem?_map,Option.map_eq_some_iff,Prod.mk.injEq] at hq hv
    obtain ⟨p,hp,e1,rfl⟩:=hq
    obtain ⟨x,hx,rfl,rfl⟩:=hv
    rw [List.getElem?_zip_eq_some] at hp
    have e2:p.1=x.1:=by have:=hp.1; simp [List.getElem?_map,hx] at this; exact this.symm
    refine ⟨by rw [← e1,e2], ?_⟩
    exact (h2 j p.2 x.2 hp.2 (by simp [List.getElem?_map,hx])).1.vr (zfc hok hp.2))
 have hpsm:(ps.map fun (i,x)=>(i,a.eval x)).toList=ps.toList.map fun p=>(p.1,a.eval p.2):=by simp
 have hg:=WGrow.push K.w K.w.drawn (.cells ys el)
 have hlt:K.w.heap.size<({ K.w with heap:=K.w.heap.push (.cells ys el),drawn:=K.w.drawn } : World).heap.size:=by simp
 have hf:=zkc hr hg hlt
 have xx:=hf.ext hr (fun t _ _=>⟨rfl,rfl⟩) (fun _=>False)
 have f2':=f2.ext xx
 have hml:len≤maxLen:=by
  have:len≤len * sz:=Nat.le_mul_of_pos_right _ hpos
  simp only [maxLen]; omega
 have hvr:VR (K.at { K.w with heap:=K.w.heap.push (.cells ys el),drawn:=K.w.drawn }) (.sl sz xs .exact) (.slice (some ⟨K.w.heap.size,0,none⟩) xs.length len):=by
  refine VR.mk (by omega) hml g2 (fun k c hc=>?_) (by simp only [TagOk]; omega)
  obtain ⟨v,hv,hvr⟩:=f2'.get hc
  refine ⟨v, ?_,zx6 hr hlt _,hvr⟩
  have hpn:=zcw K.w K.w.drawn (.cells ys el)
  simp only [Ctx.at,World.cell?,hpn,Nat.zero_add]
  simpa using hv
 rw [g1] at hvr
 refine StepOk.plain (K':=K.at { K.w with heap:=K.w.heap.push (.cells ys el),drawn:=K.w.drawn }) fr hr hB ?_ (hr.fresh hf rfl rfl rfl rfl) xx (SR.of hvr) (fun n hn=>hn) rfl
 have hn24:¬ (len * sz > 2 ^ 24):=by omega
 by_cases h0:len * sz=0
 ·have e0:∀ f:Nat→Value,(Array.range (len * sz)).map f = #[]:=by intro f; rw [h0]; simp
  simp only [cells0,e0] at f1
  simp only [execOp,ho,Instr.buildSlice,Sem.run_bind,run_underlying ht,zax hsz,Result.andThen_ok,if_neg hn24,if_pos h0,Sem.run_pure,hpsm,e0,f1,newRow,newObj]
  rfl
 ·simp only [cells0] at f1
  simp only [execOp,ho,Instr.buildSlice,Sem.run_bind,run_underlying ht,zax hsz,Result.andThen_ok,if_neg hn24,if_neg h0,hzr,Sem.run_pure,hpsm,f1,newRow,newObj]
  rfl
theorem zhV {u:TypeId} {sz:Nat} {x:GV} {v:Value} {news:List GV} (hk:(∃ e',P.underlying u=some (.slice e'))∨P.underlying u=some .string) (h:zbK sz x=some news) (hx:SR K lam x v) :
 ∃ nv:List Value,Go.Src P sz u v news.length nv K.w∧CR K (fl news) nv.toArray∧∀ y,y∈news→y.cells.length=sz∧y.flat=true:=by
 cases x <;> simp only [zbK] at h <;> try (cases h; done)
 case nilsl =>
  injection h with h; subst h
  rw [zeA] at hx; subst hx
  exact ⟨[],⟨hk,fun _=>rfl,run_firstCells_none K.w sz 0 0 0,run_firstCells_none K.w.drew sz 0 0 0,by simp,fun _ h=>by cases h⟩,⟨rfl,fun i c v hc=>by simp [fl] at hc⟩,fun y hy=>by cases hy⟩
 case sl sz' xs tag =>
  split at h
  ·rename_i e1; subst e1
   injection h with h; subst h
   cases v <;> try (cases hx; done)
   have hx':VR K (.sl sz xs tag) _:=hx
   cases hx' with
   | emp ad =>
    exact ⟨[],⟨hk,fun _=>rfl,run_firstCells_some K.w sz 0 ad 0 _ [] (by simp) (fun j w hj=>by simp at hj),run_firstCells_some K.w.drew sz 0 ad 0 _ [] (by simp) (fun j w hj=>by simp at hj),by simp,fun _ h=>by cases h⟩,⟨rfl,fun i c v hc=>by simp [fl] at hc⟩,fun y hy=>by cases hy⟩
   | @sl _ _ _ b off cap cv hcap hmax hsz hI hv htag =>
   obtain ⟨vs,v1,v2,v3⟩:=VR.flat hx
   refine ⟨vs,⟨hk,fun _=>rfl,run_firstCells_some K.w sz xs.length ⟨b,off,none⟩ xs.length _ vs v1 (fun j w hj=>by rw [zch]; exact (v3 j w hj).1),
    run_firstCells_some K.w.drew sz xs.length ⟨b,off,none⟩ xs.length _ vs v1 (fun j w hj=>by rw [zch]; exact (v3 j w hj).1),v1,fun w hw=>?_⟩,v2,hsz⟩
   obtain ⟨j,hj⟩:=List.mem_iff_getElem?.1 hw
   exact (v3 j w hj).2.2
  ·cases h
 case str s =>
  split at h
  ·rename_i e1; subst e1
   injection h with h; subst h
   rw [zfO] at hx; subst hx
   have e2:(zbf s).length=s.size:=zcp s
   refine ⟨byteCells s,⟨hk,fun _=>by rw [e2]; rfl,by rw [e2]; exact firstCells_string s K.w,by rw [e2]; exact firstCells_string s K.w.drew,by rw [byteCells_length,e2,Nat.mul_one],fun w hw=>?_⟩,⟨?_,fun i c v hc hv=>?_⟩,zfR s⟩
   ·obtain ⟨_,_,rfl⟩:=List.mem_map.1 hw; rfl
   ·rw [zkd,e2]; simp [byteCells_length]
   ·rw [zkd] at hc
    simp only [zbf,List.getElem?_map,Option.map_eq_some_iff] at hc
    obtain ⟨y,hy,rfl⟩:=hc
    have hv':(byteCells s)[i]?=some v:=by simpa using hv
    rw [byteCells,List.getElem?_map,hy] at hv'
    simp at hv'
    rw [← hv']; exact .int _ _
  ·cases h
end
section
variable {P:Program} {ro:Nat} {hp:List Nat} {K:Ctx} {H:GH} {lam:Nat→Option Nat} {nt:Nat} {e:Env} {a:Act} {o:Oper} {B:Nat}
def zaZ (K:Ctx) (w:World) (T:Nat) (ti:Tok) (toks:List Nat):Ctx:={ K with w:=w,τ:=fun t=>if t=T then some ti else K.τ t,toks:=toks }
theorem HR.tokNew (hr:HR ro K H) {w':World} (hg:WGrow K.w w') {T p:Nat} {toks:List Nat} {ti:Tok} {cur:Array Value} (hb:w'.heap[K.w.heap.size]?=some (.cells cur ti.elem (0,0))) (htb:ti.b=K.w.heap.size)
 (hfe:ti.fend≤ti.cend) (hce:ti.cend≤cur.size) (hT:toks[T]?=some p) (hTp:∀ q,K.toks[T]?=some q→q<p) (hold:∀ t,t≠T→t<K.toks.length→toks[t]?=K.toks[t]?) (hlen:K.toks.length≤toks.length) (hbt:H.bt≤T) (L:Nat→Prop) :
 HR ro (zaZ K w' T ti toks) { H with toks:=toks }∧Ext L H.bo H.bt K (zaZ K w' T ti toks):=by
 have hlt:K.w.heap.size<w'.heap.size:=(Array.getElem?_eq_some_iff.1 hb).1
 have f:Fresh K (zaZ K w' T ti toks) K.w.heap.size :=
  { hnb:=rfl,grow:=hg,lt:=hlt,N:=rfl,nO:=Nat.le_refl _,φ:=fun _ _ h=>.inl h,φ':=fun _ _=>rfl,κ:=fun _ _=>rfl
    τ:=fun t t1 h=>by
     simp only [zaZ] at h
     split at h
     ·injection h with h; subst h; exact .inr htb
     ·exact .inl h
    ρ:=fun _ h=>h,ρ':=fun _ h=>.inl h
    tok:=fun t q h=>by
     by_cases ht:t=T
     ·subst ht
      have:=hTp q h
      exact ⟨p,hT,by omega,fun e=>by omega⟩
     ·have hl:t<K.toks.length:=(List.getElem?_eq_some_iff.1 h).1
      exact ⟨q,(hold t ht hl).trans h,Nat.le_refl _,fun _=>by simp only [zaZ]; rw [if_neg ht]⟩ }
 have x:∀ L,Ext L H.bo H.bt K (zaZ K w' T ti toks):=f.ext hr (fun t h1 h2=>by
  have ht:t≠T:=by omega
  exact ⟨by simp only [zaZ]; rw [if_neg ht],hold t ht h2⟩)
 refine ⟨⟨hr.nO,rfl,hr.bo,Nat.le_trans hr.bt hlen,fun id o ho=>?_,hr.inj,fun id b h=>?_,hr.glob,hr.roN,fun t t1 h=>?_,fun t t' t1 t2 h h' e=>?_,Nat.le_trans hr.size hg.size,fun b hb=>?_,hr.to rfl (x (fun _=>False)).below⟩,x L⟩
 ·exact (hr.obj id o ho).ext (x (fun _=>False)) rfl (fun b hb=>hg.old b (hr.dom id b hb).2.1)
 ·obtain ⟨h1,h2,h3,h4⟩:=hr.dom id b h
  exact ⟨h1,Nat.lt_of_lt_of_le h2 hg.size,h3,h4⟩
 ·simp only [zaZ] at h
  split at h
  ·rename_i ht
   injection h with h; subst h
   subst ht
   rw [htb]
   refine ⟨(List.getElem?_eq_some_iff.1 hT).1,hlt,hr.size,fun h=>by have:=(hr.loc _ h).2; omega,fun id h=>by have:=(hr.dom _ _ h).2.1; omega,cur,0,0,hb,hfe,hce,.inl rfl⟩
  ·obtain ⟨h1,h2,h3,h4,h5,c,lo,hi,h6,h7⟩:=hr.tok t t1 h
   exact ⟨Nat.lt_of_lt_of_le h1 hlen,Nat.lt_of_lt_of_le h2 hg.size,h3,h4,h5,c,lo,hi,(hg.old _ h2).trans h6,h7⟩
 ·simp only [zaZ] at h h'
  split at h <;> split at h'
  ·omega
  ·injection h with h; subst h; have:=(hr.tok t' t2 h').2.1; omega
  ·injection h' with h'; subst h'; have:=(hr.tok t t1 h).2.1; omega
  ·exact hr.tinj t t' t1 t2 h h' e
 ·obtain ⟨h1,h2⟩:=hr.loc b hb
  exact ⟨h1,Nat.lt_of_lt_of_le h2 hg.size⟩
theorem HR.tokIn (hr:HR ro K H) {T pos n off:Nat} {ti:Tok} (hti:K.τ T=some ti) (hT:K.toks[T]?=some pos) (hn:0<n) {us:List Value} (hoff:off=ti.fend) (hfit:off+us.length≤ti.cend) (hbt:H.bt≤T) (h1:∀ u∈us,u.oneCell'=true) (L:Nat→Prop) :
 HR ro (zaZ K (K.w.setCells ti.b off us) T { ti with fend:=off+us.length } (K.toks.set T (pos+n))) { H with toks:=K.toks.set T (pos+n) } ∧
 Ext L H.bo H.bt K (zaZ K (K.w.setCells ti.b off us) T { ti with fend:=off+us.length } (K.toks.set T (pos+n))) ∧
 (∀ j (hj:j<us.length),(K.w.setCells ti.b off us).cell? ⟨ti.b,off+j,none⟩=some us[j]) ∧
 (∀ j,j<us.length→(K.w.cell? ⟨ti.b,off+j,none⟩).isSome=true)∧(∀ j,j<us.length→K.w.frozen? ⟨ti.b,off+j,none⟩=false):=by
 obtain ⟨t1,t2,t3,t4,t5,cur,lo,hi,t6,t7,t8,t9⟩:=hr.tok T ti hti
 have hle:off+us.length≤cur.size:=by omega
 obtain ⟨⟨cur',c1,c2,c3⟩,c4,c5,c6,c7,c8⟩:=zaH ti.b us off K.w cur ti.elem (lo,hi) t6 hle
 have hcell:∀ o,o<off→(K.w.setCells ti.b off us).cell? ⟨ti.b,o,none⟩=K.w.cell? ⟨ti.b,o,none⟩:=by
  intro o ho
  simp only [World.cell?,c1,t6,Option.isSome_none,Bool.false_eq_true,if_false]
  rw [c3 o,if_neg (by omega)]
 have hoc:∀ b o,b≠ti.b→(K.w.setCells ti.b off us).cell? ⟨b,o,none⟩=K.w.cell? ⟨b,o,none⟩:=by
  intro b o hb
  simp only [World.cell?,c4 b hb]
 have x:∀ L,Ext L H.bo H.bt K (zaZ K (K.w.setCells ti.b off us) T { ti with fend:=off+us.length } (K.toks.set T (pos+n))):=fun L =>
  ⟨rfl,Nat.le_refl _,by simp [zaZ,c5],c6,c7,c8,fun _=>Nat.le_of_eq (zda ti.b us off K.w).symm,fun _ _ _ h=>h,fun _ _=>rfl,
    fun b o hi=>by
     refine ⟨⟨by simp only [zaZ,c5]; exact hi.1,hi.2.1,hi.2.2.1,fun t t1 ht hb=>?_⟩, ?_⟩
     ·simp only [zaZ] at ht
      split at ht
      ·injection ht with ht; subst ht
       have:=hi.2.2.2 T ti hti hb
       simp only; omega
      ·exact hi.2.2.2 t t1 ht hb
     ·by_cases hb:b=ti.b
      ·subst hb
       exact hcell o (by have:=hi.2.2.2 T ti hti rfl; omega)
      ·exact hoc b o hb,
    fun b hb=>⟨hb,fun _=>c4 b (fun e=>t4 (e ▸ hb))⟩,
    fun b hb=>c4 b (by omega),
    fun t p hp=>by
     by_cases ht:t=T
     ·subst ht
      rw [hT] at hp; injection hp with hp; subst hp
      refine ⟨pos+n, ?_,by omega,fun e=>by omega⟩
      have:t<K.toks.length:=t1
      simp [zaZ,this]
     ·exact ⟨p,by simp only [zaZ,List.getElem?_set,Ne.symm ht,if_false]; exact hp,Nat.le_refl _,fun _=>by simp only [zaZ]; rw [if_neg ht]⟩,
    fun id _ _=>⟨rfl,fun b hb=>c4 b (fun e=>t5 id (e ▸ hb))⟩,
    fun t h1 h2=>by
     have ht:t≠T:=by omega
     exact ⟨by simp only [zaZ]; rw [if_neg ht],by simp only [zaZ,List.getElem?_set,Ne.symm ht,if_false],fun tj htj=>c4 tj.b (fun e=>ht (hr.tinj t T tj ti htj hti e))⟩⟩
 refine ⟨⟨hr.nO,rfl,hr.bo,by simp only [zaZ,List.length_set]; exact hr.bt,fun id o ho=>?_,hr.inj,fun id b h=>?_,hr.glob,hr.roN,fun t tj h=>?_,fun t t' tj tk h h' e=>?_,by simp only [zaZ,c5]; exact hr.size,fun b hb=>?_,hr.to rfl (x (fun _=>False)).below⟩,x L,fun j hj=>?_,fun j hj=>?_,fun j hj=>?_⟩
 ·exact (hr.obj id o ho).ext (x (fun _=>False)) rfl (fun b hb=>c4 b (fun e=>t5 id (e ▸ hb)))
 ·obtain ⟨h1,h2,h3,h4⟩:=hr.dom id b h
  exact ⟨h1,by simp only [zaZ,c5]; exact h2,h3,h4⟩
 ·simp only [zaZ] at h
  split at h
  ·rename_i ht
   subst ht
   injection h with h; subst h
   refine ⟨by simp [zaZ]; exact t1,by simp only [zaZ,c5]; exact t2,t3,t4,t5,cur',lo,hi,c1,hfit,by rw [c2]; exact t8, ?_⟩
   rcases t9 with t9 | t9
   ·exact .inl t9
   ·exact .inr (by simp only; omega)
  ·rename_i ht
   obtain ⟨h1,h2,h3,h4,h5,c,lo',hi',h6,h7⟩:=hr.tok t tj h
   exact ⟨by simp [zaZ]; exact h1,by simp only [zaZ,c5]; exact h2,h3,h4,h5,c,lo',hi',(c4 tj.b (fun e=>ht (hr.tinj t T tj ti h hti e))).trans h6,h7⟩
 ·simp only [zaZ] at h h'
  split at h <;> split at h'
  ·omega
  ·rename_i a1 a2; injection h with h; subst h; exact absurd (hr.tinj t' T tk ti h' hti e.symm) a2
  ·rename_i a1 a2; injection h' with h'; subst h'; exact absurd (hr.tinj t T tj ti h hti e) a1
  ·exact hr.tinj t t' tj tk h h' e
 ·simp only [zaZ,c5]; exact hr.loc b hb
 ·simp only [World.cell?,c1,Option.isSome_none,Bool.false_eq_true,if_false]
  rw [c3 (off+j),if_pos (by omega)]
  simp [hj]
 ·have:off+j<cur.size:=by omega
  simp [World.cell?,t6,this]
 ·simp only [World.frozen?,t6]
  rcases t9 with t9 | t9
  ·simp; omega
  ·simp; omega
end
section
variable {P:Program} {ro:Nat} {hp:List Nat} {K:Ctx} {H:GH} {lam:Nat→Option Nat} {nt:Nat} {e:Env} {a:Act} {o:Oper} {B gk:Nat}
theorem zb3 (vs:Array Value) (n i:Nat):(vs.extract 0 n)[i]?=if i<n then vs[i]? else none:=by
 rw [Array.getElem?_extract]
 by_cases h:i<n
 ·rw [if_pos h]
  by_cases h2:i<vs.size
  ·rw [if_pos (by omega)]; simp
  ·rw [if_neg (by omega)]; simp [h2]
 ·rw [if_neg h,if_neg (by omega)]
theorem crp {cs:List GV} {vs:Array Value} (h1:cs.length≤vs.size) (h2:∀ (i:Nat) c v,cs[i]?=some c→vs[i]?=some v→VR K c v):CR K cs (vs.extract 0 cs.length):=by
 refine ⟨by simp; omega,fun i c v hc hv=>h2 i c v hc ?_⟩
 have hi:=(List.getElem?_eq_some_iff.1 hc).1
 rwa [zb3,if_pos hi] at hv
theorem crq {cs:List GV} {vs:Array Value} {n:Nat} (hn:n≤vs.size) (h:CR K cs (vs.extract 0 n)):cs.length=n∧∀ (i:Nat) c v,cs[i]?=some c→vs[i]?=some v→VR K c v:=by
 have h1:cs.length=n:=by have:=h.1; simp at this; omega
 refine ⟨h1,fun i c v hc hv=>h.2 i c v hc ?_⟩
 have hi:=(List.getElem?_eq_some_iff.1 hc).1
 rwa [zb3,if_pos (by omega)]
theorem zmV (hr:HR ro K H) (fr:FR K lam nt e a) (hB:e.gen≤B) {t:TypeId} {sz:Nat} {x y:Operand} {l:List Src} {id off n' ty:Nat} {cs cs':List GV} {v:GV} (ho:o.op=.store t x y) (hs:zbn ro [x,y]=some l) (hsz:zaS P t=some sz)
 (hl:l.map (zac e)=[.ptr id off,v]) (hok:v.ok=true) (hfl:v.flat=true) (hlen:v.cells.length=sz) (hd:H.objs[id]?=some (.row ty cs)) (hbo:H.bo≤id) (hp:zae cs off v.cells=some cs') :
 StepOk P ro K lam nt e a o H ⟨.junk,none,{ H with objs:=H.objs.set id (.row ty cs') },n'⟩ B gk:=by
 obtain ⟨s,u,h1,h2,rfl⟩:=zbj hs
 obtain ⟨q1,p1⟩:=zaa hr fr h1
 obtain ⟨q2,p2⟩:=zaa hr fr h2
 simp only [List.map_cons,List.map_nil,List.cons.injEq,and_true] at hl
 rw [hl.1] at q1
 rw [hl.2] at q2
 have hvr:=q2.vr hok
 obtain ⟨hidn,hro,b,vs,h3,h4,hκ,h6,h6'⟩:=hr.obj id _ hd
 cases hq:a.eval x <;> rw [hq] at q1 <;> try (cases q1; done)
 cases q1 with
 | @ptr _ _ b' o' hid hpp =>
 obtain ⟨rfl,rfl⟩:=hpp b h3
 have hc:=crp h6 h6'
 obtain ⟨h9,h10⟩:=zcf hp hc hvr.cells
 have hes:(vs.extract 0 cs.length).size=cs.length:=by simp; omega
 rw [hes] at h9 h10
 have hst:=zfd (P:=P) h4 (Nat.le_trans h9 h6) (zhk hvr hfl)
 have hle:o'+(a.eval y).cells.toList.length≤vs.size:=by simp; omega
 have hw:=zaV h4 hle
 obtain ⟨⟨cur',c1,c2,c3⟩,_⟩:=zaH b (a.eval y).cells.toList o' K.w vs ty (0,0) h4 hle
 have hcr:=h10 (cur'.extract 0 cs.length) (by simp; omega) (fun i=>by
  rw [zb3,zb3]
  by_cases hi:i<cs.length
  ·rw [if_pos hi,if_pos hi,c3 i]; simp
  ·rw [if_neg hi,if_neg hi,if_neg (by omega)])
 have hsize:(a.eval y).cells.size=sz:=by rw [← hvr.cells.1]; exact hlen
 have hrun:(execOp a.eval o).run P K.w=.ok .skip (K.w.setCells b o' (a.eval y).cells.toList):=by
  simp [execOp,ho,Instr.storeAt,hq,Instr.sureAddr,storeVar,zax hsz,hsize,hst]
 have x0:Ext (fun _=>False) H.bo H.bt K (K.at (K.w.setCells b o' (a.eval y).cells.toList)):=(hr.obj_set h3 hbo hw (o:=.dead) trivial).2
 obtain ⟨e1,e2⟩:=crq (by rw [c2]; exact h6) (hcr.ext x0)
 obtain ⟨hr',x1⟩:=hr.obj_set h3 hbo hw (o:=.row ty cs') ⟨hidn,hro,b,cur',h3,c1,c2.trans hκ,by rw [c2,e1]; exact h6,e2⟩
 refine ⟨_,lam,undef,.inr ⟨hrun,rfl⟩,hr',x1.none,fun _ _ h=>h,fun _ _ h=>.inl h,fun _ _=>rfl,fun dst hd=>?_⟩
 exact fr.step (m:=none) (B:=B) x1 (fun _ _ h=>h) (fun n b h=>(x1.loc b (fr.lamρ n b h)).1) fr.linj (fun n hn=>fr.gen n (by omega)) (fun n b h _=>(x1.loc b (fr.lamρ n b h)).2 (fun h=>h.elim)) hd trivial
  (fun n hn=>absurd hn (fun h=>h)) (fun n h=>by cases h) (fun s g h=>by cases h)
def zbp (K:Ctx) (w':World) (id:Nat):Ctx :=
 { K with w:=w',φ:=fun i=>if i=K.nO then K.φ id else if i=id then none else K.φ i,κ:=fun i=>if i=K.nO then K.κ id else K.κ i,nO:=K.nO+1 }
theorem HR.rowMove (hr:HR ro K H) {id b:Nat} (hid:K.φ id=some b) (hbo:H.bo≤id) {w':World} (h:WSet K.w w' b) {o:GObj} (ho:Ext (fun _=>False) H.bo H.bt K (zbp K w' id)→ObjR (zbp K w' id) ro K.nO o) :
 HR ro (zbp K w' id) { H with objs:=H.objs.set id .dead++[o] }∧Ext (fun _=>False) H.bo H.bt K (zbp K w' id):=by
 obtain ⟨d1,d2,d3,d4⟩:=hr.dom id b hid
 have hN:K.N≤b:=d4 (Nat.le_trans hr.bo hbo)
 have hφ:∀ id' c,K.φ id'=some c→id'≠id→c≠b:=fun id' c hc hne e=>hne (hr.inj id' id b (e ▸ hc) hid)
 have hτ:∀ t ti,K.τ t=some ti→ti.b≠b:=fun t ti ht e=>(hr.tok t ti ht).2.2.2.2.1 id (e ▸ hid)
 have hnO:∀ i c,K.φ i=some c→i≠K.nO:=fun i c hc e=>by have:=(hr.dom i c hc).1; omega
 have hφ':∀ i c,(zbp K w' id).φ i=some c→(i=K.nO∧c=b)∨(i≠K.nO∧i≠id∧K.φ i=some c):=by
  intro i c hc
  simp only [zbp] at hc
  split at hc
  ·rename_i he; rw [hid] at hc; injection hc with hc; exact .inl ⟨he,hc.symm⟩
  ·split at hc
   ·cases hc
   ·rename_i h1 h2; exact .inr ⟨h1,h2,hc⟩
 have hφs:∀ i,i≠K.nO→i≠id→(zbp K w' id).φ i=K.φ i:=fun i h1 h2=>by simp only [zbp]; rw [if_neg h1,if_neg h2]
 have x:Ext (fun _=>False) H.bo H.bt K (zbp K w' id) :=
  ⟨rfl,Nat.le_succ _,by simp [zbp,h.size],h.tape,h.os,h.output,h.drawn,
    fun i c hi hc=>by
     rcases hφ' i c hc with ⟨h1,_⟩ | ⟨_,_,h3⟩
     ·omega
     ·exact h3,
    fun i hi=>by simp only [zbp]; rw [if_neg (by omega)],
    fun k oo hi=>by
     have hk:k≠b:=fun e=>hi.2.2.1 id (e ▸ hid)
     refine ⟨⟨by simp only [zbp,h.size]; exact hi.1,hi.2.1,fun i hc=>?_,hi.2.2.2⟩,h.cell hk⟩
     rcases hφ' i k hc with ⟨_,h2⟩ | ⟨_,_,h3⟩
     ·exact hk h2
     ·exact hi.2.2.1 i h3,
    fun k hk=>⟨hk,fun _=>h.old k (fun e=>d3 (e ▸ hk))⟩,
    fun k hk=>h.old k (fun e=>by omega),
    fun t p hp=>⟨p,hp,Nat.le_refl _,fun _=>rfl⟩,
    fun id' h1 h2=>⟨hφs id' (by omega) (by omega),fun c hc=>h.old c (hφ id' c hc (by omega))⟩,
    fun t _ _=>⟨rfl,rfl,fun ti hti=>h.old ti.b (hτ t ti hti)⟩⟩
 refine ⟨⟨by simp [hr.nO,zbp],hr.toks,hr.bo,hr.bt,fun id' o' ho'=>?_,fun i i' c hc hc'=>?_,fun i c hc=>?_,fun g c hg hc=>?_,Nat.le_succ_of_le hr.roN,fun t ti ht=>?_,hr.tinj,by simp only [zbp,h.size]; exact hr.size,fun k hk=>?_,hr.to rfl x.below⟩,x⟩
 ·have hlen:=hr.nO
  by_cases he:id'<H.objs.length
  ·rw [List.getElem?_append_left (by simpa using he)] at ho'
   by_cases hi:id'=id
   ·subst hi
    simp [he] at ho'; subst ho'; trivial
   ·simp only [List.getElem?_set,Ne.symm hi,if_false] at ho'
    exact (hr.obj id' o' ho').ext x (hφs id' (by omega) hi) (fun c hc=>h.old c (hφ id' c hc hi))
  ·rw [List.getElem?_append_right (by simpa using he)] at ho'
   have:id'=K.nO:=by
    have:=(List.getElem?_eq_some_iff.1 ho').1
    simp at this; omega
   subst this
   simp [hlen] at ho'; subst ho'; exact ho x
 ·rcases hφ' i c hc with ⟨h1,h2⟩ | ⟨h1,h2,h3⟩ <;> rcases hφ' i' c hc' with ⟨h4,h5⟩ | ⟨h4,h5,h6⟩
  ·omega
  ·exact absurd h2 (hφ i' c h6 h5)
  ·exact absurd h5 (hφ i c h3 h2)
  ·exact hr.inj i i' c h3 h6
 ·rcases hφ' i c hc with ⟨h1,h2⟩ | ⟨h1,h2,h3⟩
  ·subst h1 h2; exact ⟨by simp [zbp],by simp only [zbp,h.size]; exact d2,d3,fun _=>hN⟩
  ·obtain ⟨a1,a2,a3,a4⟩:=hr.dom i c h3
   exact ⟨by simp only [zbp]; omega,by simp only [zbp,h.size]; exact a2,a3,a4⟩
 ·rcases hφ' g c hc with ⟨h1,h2⟩ | ⟨h1,h2,h3⟩
  ·have:=hr.roN; omega
  ·exact hr.glob g c hg h3
 ·obtain ⟨h1,h2,h3,h4,h5,cur,lo,hi,h6,h7⟩:=hr.tok t ti ht
  refine ⟨h1,by simp only [zbp,h.size]; exact h2,h3,h4,fun i hi'=>?_,cur,lo,hi,(h.old ti.b (hτ t ti ht)).trans h6,h7⟩
  rcases hφ' i _ hi' with ⟨_,h9⟩ | ⟨_,_,h9⟩
  ·exact hτ t ti ht h9
  ·exact h5 i h9
 ·simp only [zbp,h.size]; exact hr.loc k hk
def zaJ (K:Ctx) (id:Nat):Ctx:={ K with φ:=fun i=>if i=id then none else K.φ i }
theorem HR.kill (hr:HR ro K H) {id:Nat} (hbo:H.bo≤id):HR ro (zaJ K id) { H with objs:=H.objs.set id .dead }∧Ext (fun _=>False) H.bo H.bt K (zaJ K id):=by
 have hφ':∀ i c,(zaJ K id).φ i=some c→i≠id∧K.φ i=some c:=by
  intro i c hc
  simp only [zaJ] at hc
  split at hc
  ·cases hc
  ·rename_i h1; exact ⟨h1,hc⟩
 have hφs:∀ i,i≠id→(zaJ K id).φ i=K.φ i:=fun i h1=>by simp only [zaJ]; rw [if_neg h1]
 have x:Ext (fun _=>False) H.bo H.bt K (zaJ K id) :=
  ⟨rfl,Nat.le_refl _,Nat.le_refl _,rfl,rfl,rfl,fun _=>Nat.le_refl _,fun i c _ hc=>(hφ' i c hc).2,fun _ _=>rfl,
    fun k oo hi=>⟨⟨hi.1,hi.2.1,fun i hc=>hi.2.2.1 i (hφ' i k hc).2,hi.2.2.2⟩,rfl⟩,
    fun k hk=>⟨hk,fun _=>rfl⟩,fun _ _=>rfl,fun t p hp=>⟨p,hp,Nat.le_refl _,fun _=>rfl⟩,
    fun id' h1 _=>⟨hφs id' (by omega),fun _ _=>rfl⟩,fun t _ _=>⟨rfl,rfl,fun _ _=>rfl⟩⟩
 refine ⟨⟨by simp [hr.nO,zaJ],hr.toks,hr.bo,hr.bt,fun id' o' ho'=>?_,fun i i' c hc hc'=>hr.inj i i' c (hφ' i c hc).2 (hφ' i' c hc').2,fun i c hc=>hr.dom i c (hφ' i c hc).2,fun g c hg hc=>hr.glob g c hg (hφ' g c hc).2,hr.roN,fun t ti ht=>?_,hr.tinj,hr.size,hr.loc,hr.to rfl x.below⟩,x⟩
 ·by_cases hi:id'=id
  ·subst hi
   have:id'<H.objs.length:=by simpa using (List.getElem?_eq_some_iff.1 ho').1
   simp [this] at ho'; subst ho'; trivial
  ·simp only [List.getElem?_set,Ne.symm hi,if_false] at ho'
   exact (hr.obj id' o' ho').ext x (hφs id' hi) (fun c hc=>rfl)
 ·obtain ⟨h1,h2,h3,h4,h5,cur,lo,hi,h6,h7⟩:=hr.tok t ti ht
  exact ⟨h1,h2,h3,h4,fun i hi'=>h5 i (hφ' i _ hi').2,cur,lo,hi,h6,h7⟩
theorem zmW (hr:HR ro K H) (fr:FR K lam nt e a) (hB:e.gen≤B) {t el:TypeId} {len sz n':Nat} {ps:Array (Nat × Operand)} {z:GV} {srcs:List Src} (ho:o.op=.buildSlice t len ps) (ht:P.underlying t=some (.slice el)) (hsz:zaS P el=some sz) (hz:zcz P el=some z)
 (hle:len * sz≤2 ^ 24) (hzl:z.cells.length=sz) (hpos:0<sz) (hs:zbn ro (ps.toList.map (·.2))=some srcs) (hok:oks (srcs.map (zac e))=true) (hlen:(srcs.map (zac e)).length=ps.toList.length)
 (hcl:∀ v,v∈srcs.map (zac e)→v.cells.length=sz∧v.flat=true) (hidx:∀ i,i∈ps.toList.map (·.1)→i<len) (hzf:z.flat=true) :
 StepOk P ro K lam nt e a o H ⟨.hsl H.objs.length 0 len sz false,none,H.newObj (.row el (fl (zaj (List.replicate len z) ((ps.toList.map (·.1)).zip (srcs.map (zac e)))))),n'⟩ B gk:=by
 obtain ⟨h1,h2⟩:=zei hr fr hs
 obtain ⟨zv,hzv,hzr⟩:=zc2 hz
 have hzc:=(zaP K _ _ _ hzv).cells
 have hzs:zv.cells.size=sz:=by rw [← hzc.1]; exact hzl
 have hrep:∀ x,x∈List.replicate len z→x.cells.length=sz∧x.flat=true:=fun x hx=>by rw [List.eq_of_mem_replicate hx]; exact ⟨hzl,hzf⟩
 have hl:∀ p,p∈(ps.toList.map (·.1)).zip (srcs.map (zac e))→p.2.cells.length=sz∧p.2.flat=true∧p.1<(List.replicate len z).length:=fun p hp=>by
  have hm:=List.of_mem_zip hp
  exact ⟨(hcl _ hm.2).1,(hcl _ hm.2).2,by rw [List.length_replicate]; exact hidx _ hm.1⟩
 have hfl:=zjr sz hpos _ _ hl hrep
 obtain ⟨g1,g2⟩:=zfS sz _ _ (fun p hp=>⟨(hl p hp).1,(hl p hp).2.1⟩) hrep
 rw [List.length_replicate] at g1
 generalize hxs:zaj (List.replicate len z) ((ps.toList.map (·.1)).zip (srcs.map (zac e)))=xs at *
 -- the zero cells
 let cells0:Array Value:=(Array.range (len * sz)).map (zv.cells[· % zv.cells.size]!)
 have hc0:CR K (fl (List.replicate len z)) cells0:=by
  have hrl:=za8 (fun x hx=>(hrep x hx).1)
  rw [List.length_replicate] at hrl
  refine ⟨by simp [cells0,hrl],fun k c v hc hv=>?_⟩
  have hk:k<len * sz:=by rw [← hrl]; exact (List.getElem?_eq_some_iff.1 hc).1
  have hd:k / sz<len:=Nat.div_lt_of_lt_mul (by rw [Nat.mul_comm]; exact hk)
  have hm:k % sz<sz:=Nat.mod_lt _ hpos
  have h3:=zjq (fun x hx=>(hrep x hx).1) (k / sz) z (by simp [hd]) (k % sz) hm
  have e1:k / sz * sz+k % sz=k:=by rw [Nat.mul_comm]; exact Nat.div_add_mod k sz
  rw [e1,hc] at h3
  have hm2:k % sz<zv.cells.size:=by omega
  simp [cells0,hk,hzs] at hv
  exact hzc.2 _ c v h3.symm (by rw [← hv]; simp [hm2])
 obtain ⟨ys,f1,f2⟩:=zfb (K:=K) (fun i=>some (i * sz,sz)) (fl (List.replicate len z)) (((ps.toList.map (·.1)).zip (srcs.map (zac e))).map fun p=>((p.1 * sz,sz),p.2)) (fl xs) cells0
  (ps.toList.map fun p=>(p.1,a.eval p.2)) hfl hc0 (by simp at hlen ⊢; omega) (fun j q g k v hq hv=>by
    simp only [List.getElem?_map,Option.map_eq_some_iff,Prod.mk.injEq] at hq hv
    obtain ⟨p,hp,e1,rfl⟩:=hq
    obtain ⟨x,hx,rfl,rfl⟩:=hv
    rw [List.getElem?_zip_eq_some] at hp
    have e2:p.1=x.1:=by have:=hp.1; simp [List.getElem?_map,hx] at this; exact this.symm
    refine ⟨by rw [← e1,e2], ?_⟩
    exact (h2 j p.2 x.2 hp.2 (by simp [List.getElem?_map,hx])).1.vr (zfc hok hp.2))
 have hpsm:(ps.map fun (i,x)=>(i,a.eval x)).toList=ps.toList.map fun p=>(p.1,a.eval p.2):=by simp
 have hml:len≤maxLen:=by
  have:len≤len * sz:=Nat.le_mul_of_pos_right _ hpos
  simp only [maxLen]; omega
 have f:=zcC hr K.w.drawn (.cells ys el)
 have xo:=f.ext hr (fun t _ _=>⟨rfl,rfl⟩) (fun _=>False)
 have f2':=f2.ext xo
 have hys:ys.size=len * sz:=by
  have:=f2.1
  rw [za8 (fun x hx=>(g2 x hx).1),g1] at this
  exact this.symm
 have hnew:=hr.newObj K.w.drawn (.cells ys el) (.row el (fl xs)) ⟨by simp [zaq],hr.roN,K.w.heap.size,ys,by simp [zaq],zcw K.w K.w.drawn (.cells ys el),by simp [zaq,zdG],by rw [f2.1]; exact Nat.le_refl _,f2'.2⟩
 have hvr:VR (zaq K K.w.drawn (.cells ys el)) (.hsl K.nO 0 len sz false) (.slice (some ⟨K.w.heap.size,0,none⟩) len len):=by
  refine .hsl (by simp [zaq]) (fun c hc=>?_) (Nat.le_refl _) hml
  simp [zaq] at hc
  exact ⟨hc.symm,rfl,by simp [zaq,zdG,hys]⟩
 rw [hr.nO]
 refine StepOk.plain (K':=zaq K K.w.drawn (.cells ys el)) fr hr hB ?_ hnew xo (SR.of hvr) (fun n hn=>hn) rfl
 have hn24:¬ (len * sz > 2 ^ 24):=by omega
 by_cases h0:len * sz=0
 ·have e0:∀ f:Nat→Value,(Array.range (len * sz)).map f = #[]:=by intro f; rw [h0]; simp
  simp only [cells0,e0] at f1
  simp only [execOp,ho,Instr.buildSlice,Sem.run_bind,run_underlying ht,zax hsz,Result.andThen_ok,if_neg hn24,if_pos h0,Sem.run_pure,hpsm,e0,f1,newRow,newObj]
  rfl
 ·simp only [cells0] at f1
  simp only [execOp,ho,Instr.buildSlice,Sem.run_bind,run_underlying ht,zax hsz,Result.andThen_ok,if_neg hn24,if_neg h0,hzr,Sem.run_pure,hpsm,f1,newRow,newObj]
  rfl
theorem zlo (hr:HR ro K H) (fr:FR K lam nt e a) (hB:e.gen≤B) {sx xx:Operand} {t u el:TypeId} {sz n':Nat} {i:TypeInfo} {zv:Value} (ho:o.op=.call { callee:=.builtin .append,args := #[sx,xx],argTypes := #[t,u] })
 (ht:P.underlying t=some (.slice el)) (hi:P.info? el=some i) (hisz:i.size=sz) (hiz:i.zero=some zv) (hzs:zv.cells.size=sz)
 {id len:Nat} {ag:Bool} {cs news:List GV} {nv:List Value} (q1:SR K lam (.hsl id 0 len sz ag) (a.eval sx)) (hob:H.objs[id]?=some (.row el cs)) (hlen:cs.length=len * sz) (hbo:H.bo≤id)
 (hsrc:Go.Src P i.size u (a.eval xx) news.length nv K.w) (hnc:CR K (fl news) nv.toArray) (hns:∀ y,y∈news→y.cells.length=sz∧y.flat=true) (hmax:len+news.length≤maxLen) (hroom:(len+news.length) * i.bytes≤room) :
 StepOk P ro K lam nt e a o H ⟨.hsl H.objs.length 0 (len+news.length) sz ag,none,{ H with objs:=H.objs.set id .dead++[.row el (cs++fl news)] },n'⟩ B gk:=by
 cases hq:a.eval sx <;> rw [hq] at q1 <;> try (cases q1; done)
 have q1':VR K (.hsl id 0 len sz ag) _:=q1
 cases q1' with
 | @hsl _ _ _ _ _ b off _ hid hh hcap hcmax =>
 rename_i cap
 obtain ⟨hidn,hro,b',vs,h3,h4,hκ,h6,h6'⟩:=hr.obj id _ hob
 obtain ⟨rfl,rfl,hk⟩:=hh b' h3
 have hfn:=za8 (fun y hy=>(hns y hy).1)
 have hnl:nv.length=news.length * sz:=by rw [← hisz]; exact hsrc.newsLen
 rw [hr.nO]
 by_cases hgt:cap<len+news.length
 ·have h63:((len+news.length:Nat):Int)≤9223372036854775807:=by simp only [maxLen] at hmax; omega
  have hol:(vs.toList.take (len * sz)).length=len * sz:=by simp; omega
  have hold:(Builtin.firstCells i.size len (.slice (some ⟨b',0,none⟩) len cap)).run P K.w.drew=.ok (vs.toList.take (len * sz)).toArray K.w.drew:=by
   refine run_firstCells_some K.w.drew i.size len ⟨b',0,none⟩ len cap _ (by rw [hol,hisz]) (fun j v hj=>?_)
   rw [zch]
   rw [List.getElem?_take] at hj
   split at hj
   ·have h4':K.w.drew.heap[b']?=some (.cells vs el (0,0)):=h4
    simp only [World.cell?,h4',Nat.zero_add,Option.isSome_none,Bool.false_eq_true,if_false]
    simpa using hj
   ·cases hj
  have hrun:=run_append_grow_src (P:=P) K.w t u o.type el i zv ht hi hiz (some ⟨b',0,none⟩) len cap _ hold (a.eval xx) news.length nv hsrc hgt h63 (growslice_fits hgt hroom)
  generalize hcapn:grownCap K.w (len+news.length) cap el=capn at hrun
  have hc1:len+news.length≤capn:=by rw [← hcapn]; exact grownCap_ge _ _ _ _
  have hc2:capn≤maxLen:=by rw [← hcapn]; exact grownCap_le_maxLen _ _ _ _ hmax
  generalize hcur:(vs.toList.take (len * sz)++nv).toArray++Builtin.zeroCells zv.cells (capn - (len+news.length))=cur at hrun
  have hcs:cur.size=capn * sz:=by
   rw [← hcur]
   simp only [Array.size_append,List.size_toArray,List.length_append,size_zeroCells,hzs,hol,hnl]
   rw [← Nat.add_mul,← Nat.add_mul]
   congr 1; omega
  obtain ⟨hrk,xk⟩:=hr.kill hbo
  have f:=zcC hrk K.w.drew.drawn (.cells cur el)
  have xo:=f.ext hrk (fun t _ _=>⟨rfl,rfl⟩) (fun _=>False)
  have xx':Ext (fun _=>False) H.bo H.bt K (zaq (zaJ K id) K.w.drew.drawn (.cells cur el)):=xk.trans xo (fun _ _ h=>h)
  have hnew:=hrk.newObj K.w.drew.drawn (.cells cur el) (.row el (cs++fl news)) (by
   refine ⟨by simp [zaq,zaJ],hr.roN,K.w.heap.size,cur,by simp [zaq,zaJ],zcw K.w K.w.drew.drawn (.cells cur el),by simp [zaq,zaJ,zdG], ?_,fun k c v hc hv=>?_⟩
   ·rw [List.length_append,hlen,hfn,← Nat.add_mul,hcs]; exact Nat.mul_le_mul_right _ hc1
   ·have hkl:k<(len+news.length) * sz:=by
     have:=(List.getElem?_eq_some_iff.1 hc).1
     rw [List.length_append,hlen,hfn,← Nat.add_mul] at this
     exact this
    have hcur2:(vs.toList.take (len * sz)++nv)[k]?=cur[k]?:=by
     rw [← hcur,Array.getElem?_append_left (by simp only [List.size_toArray,List.length_append,hol,hnl]; rw [← Nat.add_mul]; exact hkl)]
     simp
    rw [hv,List.getElem?_append,hol] at hcur2
    rw [List.getElem?_append,hlen] at hc
    split at hc
    ·rename_i hk1
     rw [if_pos hk1,List.getElem?_take,if_pos hk1] at hcur2
     exact (h6' k c v hc (by simpa using hcur2)).ext xx'
    ·rename_i hk1
     rw [if_neg hk1] at hcur2
     exact (hnc.2 _ c v hc (by simpa using hcur2)).ext xx')
  have hvr:VR (zaq (zaJ K id) K.w.drew.drawn (.cells cur el)) (.hsl K.nO 0 (len+news.length) sz ag) (.slice (some ⟨K.w.heap.size,0,none⟩) (len+news.length) capn):=by
   refine .hsl (by simp [zaq,zaJ]) (fun c hc=>?_) hc1 hc2
   simp [zaq,zaJ] at hc
   exact ⟨hc.symm,rfl,by simp [zaq,zaJ,zdG,hcs]⟩
  refine StepOk.plain (K':=zaq (zaJ K id) K.w.drew.drawn (.cells cur el)) fr hr hB ?_ hnew xx' (SR.of hvr) (fun n hn=>hn) rfl
  refine zav ho ?_
  simp only [builtin,List.map_toArray,List.map_cons,List.map_nil,hq,Sem.run_bind,hrun,Result.andThen_ok,Sem.run_pure]
  rfl
 ·have hfit:len * sz+nv.length≤vs.size:=by
   rw [hnl,← Nat.add_mul,hκ]
   have:(len+news.length) * sz≤cap * sz:=Nat.mul_le_mul_right _ (by omega)
   omega
  have hw:=zaV (us:=nv) h4 hfit
  obtain ⟨⟨cur',c1,c2,c3⟩,_⟩:=zaH b' nv (len * sz) K.w vs el (0,0) h4 hfit
  have hrun:=run_append_room_src (P:=P) K.w t u o.type el i ht hi b' 0 len cap (a.eval xx) news.length nv hsrc (by omega)
   (fun j hj=>by
     have:len * i.size+j<vs.size:=by rw [hisz]; omega
     simp [World.cell?,h4,this])
   (fun j hj=>by simp [World.frozen?,h4])
  rw [hisz,Nat.zero_add] at hrun
  obtain ⟨hr',x1⟩:=hr.rowMove h3 hbo hw (o:=.row el (cs++fl news)) (fun x=>by
   refine ⟨by simp [zbp],hr.roN,b',cur',by simp [zbp,h3],c1,by simp [zbp,c2,hκ], ?_,fun k c v hc hv=>?_⟩
   ·rw [List.length_append,hlen,hfn,c2,← hnl]; exact hfit
   ·rw [c3 k] at hv
    rw [List.getElem?_append,hlen] at hc
    split at hc
    ·rename_i hk1
     rw [if_neg (by omega)] at hv
     exact (h6' k c v hc hv).ext x
    ·rename_i hk1
     have hk2:=(List.getElem?_eq_some_iff.1 hc).1
     rw [hfn,← hnl] at hk2
     rw [if_pos (by omega)] at hv
     exact (hnc.2 _ c v hc (by simpa using hv)).ext x)
  have hvr:VR (zbp K (K.w.setCells b' (len * sz) nv) id) (.hsl K.nO 0 (len+news.length) sz ag) (.slice (some ⟨b',0,none⟩) (len+news.length) cap):=by
   refine .hsl (by simp [zbp]) (fun c hc=>?_) (by omega) hcmax
   simp [zbp,h3] at hc
   exact ⟨hc.symm,rfl,by simpa [zbp] using hk⟩
  refine StepOk.plain (K':=zbp K (K.w.setCells b' (len * sz) nv) id) fr hr hB (zav ho ?_) hr' x1 (SR.of hvr) (fun n hn=>hn) rfl
  simp only [builtin,List.map_toArray,List.map_cons,List.map_nil,hq,Sem.run_bind,hrun,Result.andThen_ok,Sem.run_pure]
  rfl
end
section
variable {P:Program} {ro:Nat} {hp:List Nat} {K:Ctx} {H:GH} {lam:Nat→Option Nat} {nt:Nat} {e:Env} {a:Act} {o:Oper} {B gk:Nat}
theorem zfe (hr:HR ro K H) (fr:FR K lam nt e a) (hB:e.gen≤B) {sx xx:Operand} {t u el:TypeId} {sz n':Nat} {i:TypeInfo} {zv:Value} (ho:o.op=.call { callee:=.builtin .append,args := #[sx,xx],argTypes := #[t,u] })
 (ht:P.underlying t=some (.slice el)) (hi:P.info? el=some i) (hisz:i.size=sz) (hiz:i.zero=some zv) (hzs:zv.cells.size=sz)
 {base:Option Addr} {sLen sCap:Nat} {xs news:List GV} {nv olds:List Value} (hq:a.eval sx=.slice base sLen sCap) (hsl:sLen=xs.length)
 (hold:(Builtin.firstCells i.size sLen (.slice base sLen sCap)).run P K.w.drew=.ok olds.toArray K.w.drew) (holc:CR K (fl xs) olds.toArray)
 (hsrc:Go.Src P i.size u (a.eval xx) news.length nv K.w) (hnc:CR K (fl news) nv.toArray) (hxs:∀ y,y∈xs→y.cells.length=sz∧y.flat=true) (hns:∀ y,y∈news→y.cells.length=sz∧y.flat=true)
 (hgt:sCap<sLen+news.length) (hmax:xs.length+news.length≤maxLen) (hroom:(xs.length+news.length) * i.bytes≤room)
 {T p:Nat} {toks:List Nat} (hT:toks[T]?=some p) (hp:xs.length+news.length≤p) (hTp:∀ q,K.toks[T]?=some q→q<p) (hold':∀ t,t≠T→t<K.toks.length→toks[t]?=K.toks[t]?) (hlen:K.toks.length≤toks.length) (hbt:H.bt≤T) {ty:Option Nat} (hty:∀ y,ty=some y→el=y) :
 StepOk P ro K lam nt e a o H ⟨.sl sz (xs++news) (.tok T p ty),none,{ H with toks:=toks },n'⟩ B gk:=by
 subst hsl
 have h63:((xs.length+news.length:Nat):Int)≤9223372036854775807:=by simp only [maxLen] at hmax; omega
 have hrun:=run_append_grow_src (P:=P) K.w t u o.type el i zv ht hi hiz base xs.length sCap olds hold (a.eval xx) news.length nv hsrc hgt h63 (growslice_fits hgt hroom)
 generalize hcap:grownCap K.w (xs.length+news.length) sCap el=cap at hrun
 have hc1:xs.length+news.length≤cap:=by rw [← hcap]; exact grownCap_ge _ _ _ _
 have hc2:cap≤maxLen:=by rw [← hcap]; exact grownCap_le_maxLen _ _ _ _ hmax
 generalize hcur:(olds++nv).toArray++Builtin.zeroCells zv.cells (cap - (xs.length+news.length))=cur at hrun
 have hall:∀ y,y∈xs++news→y.cells.length=sz∧y.flat=true:=fun y hy=>by
  rcases List.mem_append.1 hy with h | h
  ·exact hxs y h
  ·exact hns y h
 have hfl:=za8 (fun y hy=>(hall y hy).1)
 rw [List.length_append] at hfl
 have ho1:olds.length=(fl xs).length:=by rw [holc.1]; simp
 have hn1:nv.length=(fl news).length:=by rw [hnc.1]; simp
 have hcs:cur.size=cap * sz:=by
  rw [← hcur]
  simp only [Array.size_append,List.size_toArray,List.length_append,size_zeroCells,hzs]
  rw [ho1,hn1,← List.length_append,← zdm,hfl,← Nat.add_mul]
  congr 1; omega
 let w':=K.w.drew.alloc (.cells cur el)
 have hg:WGrow K.w w':=⟨by simp [w'],rfl,rfl,rfl,fun b hb=>heap_alloc_old K.w.drew _ b hb,fun _=>Nat.le_succ _⟩
 have hb:w'.heap[K.w.heap.size]?=some (.cells cur el (0,0)):=heap_alloc_new K.w.drew _
 have htok:=hr.tokNew hg (T:=T) (p:=p) (toks:=toks) (ti:=⟨K.w.heap.size,(xs.length+news.length) * sz,cap * sz,el⟩) hb rfl (Nat.mul_le_mul_right _ hc1) (by rw [hcs]; exact Nat.le_refl _) hT hTp hold' hlen hbt (fun _=>False)
 obtain ⟨hr',x⟩:=htok
 generalize hK:zaZ K w' T ⟨K.w.heap.size,(xs.length+news.length) * sz,cap * sz,el⟩ toks=K' at hr' x
 have hKw:K'.w=w':=by rw [← hK]; rfl
 have hτT:K'.τ T=some ⟨K.w.heap.size,(xs.length+news.length) * sz,cap * sz,el⟩:=by rw [← hK]; simp [zaZ]
 have hlt:K.w.heap.size<K'.w.heap.size:=by rw [hKw]; exact (Array.getElem?_eq_some_iff.1 hb).1
 have hvr:VR K' (.sl sz (xs++news) (.tok T p ty)) (.slice (some ⟨K.w.heap.size,0,none⟩) (xs++news).length cap):=by
  refine VR.mk (by rw [List.length_append]; exact hc1) hc2 hall (fun k c hc=>?_) ⟨by rw [x.N]; exact hr.size,by rw [List.length_append]; exact hp,p,by rw [← hK]; exact hT,Nat.le_refl _,fun _=>.inr ⟨_,hτT,rfl,by simp,by simp,hty⟩⟩
  have hk:k<(xs.length+news.length) * sz:=by rw [← hfl]; exact (List.getElem?_eq_some_iff.1 hc).1
  have himm:Imm K' K.w.heap.size (0+k):=by
   refine ⟨hlt,fun h=>?_,fun id h=>?_,fun t ti h h'=>?_⟩
   ·rw [← hK] at h; have:=(hr.loc _ h).2; omega
   ·rw [← hK] at h; have:=(hr.dom _ _ h).2.1; omega
   ·rw [← hK] at h
    simp only [zaZ] at h
    split at h
    ·injection h with h; subst h; simp only; omega
    ·have:=(hr.tok _ _ h).2.1; omega
  rw [zdm] at hc
  have hcur2:(olds++nv)[k]?=cur[k]?:=by
   rw [← hcur,Array.getElem?_append_left (by simp only [List.size_toArray,List.length_append]; rw [ho1,hn1,← List.length_append,← zdm,hfl]; exact hk)]
   simp
  have hcell:∀ v,cur[k]?=some v→K'.w.cell? ⟨K.w.heap.size,0+k,none⟩=some v:=by
   intro v hv
   simp only [hKw,World.cell?,hb,Nat.zero_add,Option.isSome_none,Bool.false_eq_true,if_false]
   exact hv
  rw [List.getElem?_append] at hc hcur2
  split at hc
  ·rename_i hk1
   obtain ⟨v,hv,hvr⟩:=holc.get hc
   have hv':olds[k]?=some v:=by simpa using hv
   rw [if_pos (by rw [ho1]; exact hk1),hv'] at hcur2
   exact ⟨v,hcell v hcur2.symm,himm,hvr.ext x⟩
  ·rename_i hk1
   obtain ⟨v,hv,hvr⟩:=hnc.get hc
   have hv':nv[k - (fl xs).length]?=some v:=by simpa using hv
   rw [if_neg (by rw [ho1]; exact hk1),ho1,hv'] at hcur2
   exact ⟨v,hcell v hcur2.symm,himm,hvr.ext x⟩
 rw [List.length_append] at hvr
 refine StepOk.plain (K':=K') fr hr hB ?_ hr' x (SR.of hvr) (fun n hn=>hn) rfl
 refine zav ho ?_
 simp only [builtin,List.map_toArray,List.map_cons,List.map_nil,hq,Sem.run_bind,hrun,Result.andThen_ok,Sem.run_pure,hKw]
 rfl
theorem zff (hr:HR ro K H) (fr:FR K lam nt e a) (hB:e.gen≤B) {sx xx:Operand} {t u el:TypeId} {sz by_ n':Nat} {z v:GV} {s x:Src} {H':GH} (ho:o.op=.call { callee:=.builtin .append,args := #[sx,xx],argTypes := #[t,u] })
 (ht:P.underlying t=some (.slice el)) (hk:(∃ e',P.underlying u=some (.slice e'))∨P.underlying u=some .string) (hsz:zaS P el=some sz) (hby:zfM P el=some by_) (hz:zcz P el=some z) (hzl:z.cells.length=sz)
 (hs:zbM ro sx=some s) (hx:zbM ro xx=some x) (hg:zaU H el sz by_ (zac e s) (zac e x)=some (v,H')):StepOk P ro K lam nt e a o H ⟨v,none,H',n'⟩ B gk:=by
 obtain ⟨q1,p1⟩:=zaa hr fr hs
 obtain ⟨q2,p2⟩:=zaa hr fr hx
 obtain ⟨i,hi,hisz⟩:∃ i,P.info? el=some i∧i.size=sz:=by simpa [zaS,Option.map_eq_some_iff] using hsz
 have hib:i.bytes=by_:=by simpa [zfM,hi] using hby
 obtain ⟨zv,hiz,hzv⟩:∃ zv,i.zero=some zv∧zeY 8 zv=some z:=by
  simp only [zcz,hi,Option.bind_some,Option.bind_eq_some_iff] at hz
  exact hz
 have hzs:zv.cells.size=sz:=by rw [← (zaP K _ _ _ hzv).cells.1]; exact hzl
 unfold zaU at hg
 simp only [Option.bind_eq_some_iff] at hg
 obtain ⟨news,hn,hg⟩:=hg
 obtain ⟨nv,hsrc,hnc,hns⟩:=zhV hk hn q2
 rw [← hisz] at hsrc
 split at hg
 ·rename_i hsv
  rw [hsv,zeA] at q1
  split at hg
  ·rename_i hem
   have hne:news=[]:=by simpa using hem
   subst hne
   simp only [Option.some.injEq,Prod.mk.injEq] at hg
   obtain ⟨rfl,rfl⟩:=hg
   refine zaQ hr fr hB ⟨.slice none 0 0,zav ho ?_,SR.of .nilsl,fun n hn=>hn⟩
   have hl:=hsrc.len K.w
   have hc:=hsrc.cells
   simp only [List.length_nil] at hl hc
   rcases hsrc.kind with ⟨e',hk⟩ | hk <;>
    simp [builtin,q1,Builtin.append_,run_underlying ht,run_underlying hk,sizeOf,zcA hi,hl,hc]
  ·rename_i hem
   split at hg
   ·rename_i hrm
    simp only [Option.some.injEq,Prod.mk.injEq] at hg
    obtain ⟨rfl,rfl⟩:=hg
    have hnl:0<news.length:=by
     cases news with
     | nil=>simp at hem
     | cons _ _=>simp
    have hT:H.toks.length=K.toks.length:=by rw [hr.toks]
    rw [hT]
    have:=zfe (gk:=gk) (i:=i) (xs:=[]) (news:=news) (olds:=[]) (base:=none) (sLen:=0) (sCap:=0) (T:=K.toks.length) (p:=news.length) (toks:=K.toks++[news.length]) (n':=n') hr fr hB ho ht hi hisz hiz hzs q1 rfl
     (run_firstCells_none _ _ _ _ _) ⟨rfl,fun i c v hc=>by simp [fl] at hc⟩ hsrc hnc (fun y hy=>by cases hy) hns (by omega) (by simpa using hrm.2) (by rw [hib]; simpa using hrm.1) (by simp) (by simp)
     (fun q hq=>by simp at hq) (fun t _ h=>by rw [List.getElem?_append_left h]) (by simp) hr.bt (ty:=some el) (fun y h=>Option.some.inj h)
    rw [hr.toks]
    simpa using this
   ·cases hg
 ·rename_i sz' xs tag hsv
  rw [hsv] at q1
  split at hg
  ·cases hg
  rename_i hszz
  have hszz:sz=sz':=Decidable.byContradiction fun e=>hszz e
  subst hszz
  cases hq:a.eval sx <;> rw [hq] at q1 <;> try (cases q1; done)
  have q1':VR K (.sl sz xs tag) _:=q1
  cases q1' with
  | emp ad htt =>
   split at hg
   ·rename_i hem
    have hne:news=[]:=by simpa using hem
    subst hne
    simp only [Option.some.injEq,Prod.mk.injEq] at hg
    obtain ⟨rfl,rfl⟩:=hg
    have hnv:nv=[]:=List.eq_nil_of_length_eq_zero (by have:=hsrc.newsLen; simpa using this)
    subst hnv
    refine zaQ hr fr hB ⟨.slice (some ad) 0 0,zav ho ?_,by rw [hsv]; exact SR.of (.emp ad htt),p1⟩
    have hl:=hsrc.len K.w
    have hc:=hsrc.cells
    simp only [List.length_nil] at hl hc
    rcases hsrc.kind with ⟨e',hk⟩ | hk <;>
     simp [builtin,hq,Builtin.append_,run_underlying ht,run_underlying hk,sizeOf,zcA hi,hl,hc,storeCells]
   ·rename_i hem
    rcases htt with rfl | rfl
    ·rw [if_pos rfl] at hg; cases hg
    rw [if_neg (by simp)] at hg
    have hnl:0<news.length:=by
     cases news with
     | nil=>simp at hem
     | cons _ _=>simp
    split at hg
    ·rename_i hrm
     simp only [Option.some.injEq,Prod.mk.injEq] at hg
     obtain ⟨rfl,rfl⟩:=hg
     have hT:H.toks.length=K.toks.length:=by rw [hr.toks]
     rw [hT]
     have:=zfe (gk:=gk) (i:=i) (xs:=[]) (news:=news) (olds:=[]) (base:=some ad) (sLen:=0) (sCap:=0) (T:=K.toks.length) (p:=news.length) (toks:=K.toks++[news.length]) (n':=n') hr fr hB ho ht hi hisz hiz hzs hq rfl
      (run_firstCells_some K.w.drew i.size 0 ad 0 _ [] (by simp) (fun j w hj=>by simp at hj)) ⟨rfl,fun i c v hc=>by simp [fl] at hc⟩ hsrc hnc (fun y hy=>by cases hy) hns (by omega) (by simpa using hrm.2) (by rw [hib]; simpa using hrm.1) (by simp) (by simp)
      (fun q hq=>by simp at hq) (fun t _ h=>by rw [List.getElem?_append_left h]) (by simp) hr.bt (ty:=some el) (fun y h=>Option.some.inj h)
     rw [hr.toks]
     simpa using this
    ·cases hg
  | @sl _ _ _ b off cap cv hcap hmax hcs hI hv htag =>
  rename_i cap
  obtain ⟨ov,ov1,ov2,ov3⟩:=VR.flat q1
  have hold:∀ w:World,w.heap=K.w.heap→(Builtin.firstCells i.size xs.length (.slice (some ⟨b,off,none⟩) xs.length cap)).run P w=.ok ov.toArray w:=by
   intro w hw
   refine run_firstCells_some w i.size xs.length ⟨b,off,none⟩ xs.length cap ov (by rw [hisz]; exact ov1) (fun j u hj=>?_)
   rw [zch]
   have:=(ov3 j u hj).1
   simp only [World.cell?,hw] at this ⊢
   exact this
  split at hg
  ·rename_i hem
   have hne:news=[]:=by simpa using hem
   subst hne
   simp only [Option.some.injEq,Prod.mk.injEq] at hg
   obtain ⟨rfl,rfl⟩:=hg
   have hnv:nv=[]:=List.eq_nil_of_length_eq_zero (by have:=hsrc.newsLen; simpa using this)
   subst hnv
   have hrun:=run_append_room_src (P:=P) K.w t u o.type el i ht hi b off xs.length cap (a.eval xx) 0 [] (by simpa using hsrc) (by omega) (by simp) (by simp)
   refine zaQ hr fr hB ⟨a.eval sx,zav ho ?_,by rw [hsv,hq]; exact q1,p1⟩
   simp only [builtin,List.map_toArray,List.map_cons,List.map_nil,hq,Sem.run_bind,hrun,Result.andThen_ok,Sem.run_pure]
   rfl
  ·rename_i hem
   split at hg
   ·cases hg
   rename_i htg
   have hnl:0<news.length:=by
    cases news with
    | nil=>simp at hem
    | cons _ _=>simp
   split at hg
   ·rename_i hrm
    -- in a new block
    have grow:∀ (T p:Nat) (toks:List Nat),cap<xs.length+news.length→toks[T]?=some p→xs.length+news.length≤p→(∀ q,K.toks[T]?=some q→q<p)→(∀ t,t≠T→t<K.toks.length→toks[t]?=K.toks[t]?)→K.toks.length≤toks.length→H.bt≤T →
     ∀ ty:Option Nat,(∀ y,ty=some y→el=y)→StepOk P ro K lam nt e a o H ⟨.sl sz (xs++news) (.tok T p ty),none,{ H with toks:=toks },n'⟩ B gk:=fun T p toks hgt hT hp hTp ho2 hln hbt ty hty =>
     zfe (i:=i) hr fr hB ho ht hi hisz hiz hzs hq rfl (hold K.w.drew rfl) ov2 hsrc hnc hcs hns hgt hrm.2 (by rw [hib]; exact hrm.1) hT hp hTp ho2 hln hbt hty
    split at hg
    ·cases hg
    ·simp only [Option.some.injEq,Prod.mk.injEq] at hg
     obtain ⟨rfl,rfl⟩:=hg
     simp only [TagOk] at htag
     rw [hr.toks]
     exact grow K.toks.length (xs.length+news.length) (K.toks++[xs.length+news.length]) (by omega) (by simp) (Nat.le_refl _) (fun q hq=>by simp at hq) (fun t _ h=>by rw [List.getElem?_append_left h]) (by simp) hr.bt (some el) (fun y h=>Option.some.inj h)
    ·rename_i T pos ty'
     split at hg
     ·rename_i hcond
      simp only [Option.some.injEq,Prod.mk.injEq] at hg
      obtain ⟨rfl,rfl⟩:=hg
      rw [hr.toks] at hcond ⊢
      obtain ⟨gN,g1,p,g2,g3,g4⟩:=htag
      have hpp:p=pos:=by rw [hcond.1] at g2; injection g2 with g2; exact g2.symm
      subst hpp
      have hTl:T<K.toks.length:=(List.getElem?_eq_some_iff.1 hcond.1).1
      have hset:(K.toks.set T (p+news.length))[T]?=some (p+news.length):=by simp [hTl]
      by_cases hgt:cap<xs.length+news.length
      ·exact grow T (p+news.length) (K.toks.set T (p+news.length)) hgt hset (by omega) (fun q hq=>by rw [hcond.1] at hq; injection hq with hq; omega) (fun t h _=>by simp [Ne.symm h]) (by simp) hcond.2 _ (fun y h=>by
        split at h
        ·rename_i he; rw [he] at h; exact Option.some.inj h
        ·cases h)
      ·rcases g4 rfl with g5 | ⟨ti,g5,g6,g7,g8,g9⟩
       ·omega
       ·-- in place
        subst g6
        have hnlen:nv.length=news.length * sz:=by rw [← hisz]; exact hsrc.newsLen
        have hfit:ti.fend+nv.length≤ti.cend:=by
         rw [hnlen,← g7,Nat.add_assoc,← Nat.add_mul]
         have:(xs.length+news.length) * sz≤cap * sz:=Nat.mul_le_mul_right _ (by omega)
         omega
        obtain ⟨hr',x1,c1,c2,c3⟩:=hr.tokIn g5 hcond.1 hnl (us:=nv) rfl hfit hcond.2 hsrc.one (fun _=>False)
        have hoff:off+xs.length * i.size=ti.fend:=by rw [hisz]; exact g7
        have hrun:=run_append_room_src (P:=P) K.w t u o.type el i ht hi ti.b off xs.length cap (a.eval xx) news.length nv hsrc (by omega) (fun j hj=>by rw [hoff]; exact c2 j hj) (fun j hj=>by rw [hoff]; exact c3 j hj)
        rw [hoff] at hrun
        generalize hK:zaZ K (K.w.setCells ti.b ti.fend nv) T { ti with fend:=ti.fend+nv.length } (K.toks.set T (p+news.length))=K' at hr' x1
        have hKw:K'.w=K.w.setCells ti.b ti.fend nv:=by rw [← hK]; rfl
        have hτT:K'.τ T=some { ti with fend:=ti.fend+nv.length }:=by rw [← hK]; simp [zaZ]
        have hall:∀ y,y∈xs++news→y.cells.length=sz∧y.flat=true:=fun y hy=>by
         rcases List.mem_append.1 hy with h | h
         ·exact hcs y h
         ·exact hns y h
        have hfx:=za8 (fun y hy=>(hcs y hy).1)
        have hfn:=za8 (fun y hy=>(hns y hy).1)
        obtain ⟨t1,t2,t3,t4,t5,cur,lo,hi',t6,t7⟩:=hr.tok T ti g5
        have hvr:VR K' (.sl sz (xs++news) (.tok T (p+news.length) (if ty'=some el then ty' else none))) (.slice (some ⟨ti.b,off,none⟩) (xs++news).length cap):=by
         refine VR.mk (by rw [List.length_append]; omega) hmax hall (fun k c hc=>?_) ⟨by rw [x1.N]; exact gN,by rw [List.length_append]; omega,p+news.length,by rw [← hK]; exact hset,Nat.le_refl _,fun _=>.inr ⟨_,hτT,rfl, ?_,g8,fun y h=>by
          split at h
          ·exact g9 y h
          ·cases h⟩⟩
         ·rw [zdm,List.getElem?_append] at hc
          split at hc
          ·rename_i hk1
           obtain ⟨v,hv,hvr⟩:=ov2.get hc
           have hv':ov[k]?=some v:=by simpa using hv
           obtain ⟨o1,o2,_⟩:=ov3 k v hv'
           obtain ⟨x2,x3⟩:=x1.imm _ _ o2
           exact ⟨v,x3.trans o1,x2,hvr.ext x1⟩
          ·rename_i hk1
           obtain ⟨v,hv,hvr⟩:=hnc.get hc
           have hv':nv[k - (fl xs).length]?=some v:=by simpa using hv
           have hkl:=(List.getElem?_eq_some_iff.1 hv').1
           have e1:off+k=ti.fend+(k - (fl xs).length):=by rw [← g7,hfx]; rw [hfx] at hk1; omega
           refine ⟨v, ?_, ?_,hvr.ext x1⟩
           ·rw [e1,hKw,c1 _ hkl]
            rw [List.getElem?_eq_getElem hkl] at hv'
            exact hv'
           ·rw [e1]
            refine ⟨Nat.lt_of_lt_of_le t2 x1.size,fun h=>?_,fun id h=>?_,fun t tj h h'=>?_⟩
            ·rw [← hK] at h; exact t4 h
            ·rw [← hK] at h; exact t5 id h
            ·rw [← hK] at h
             simp only [zaZ] at h
             split at h
             ·injection h with h; subst h; simp only; omega
             ·rename_i hne; exact absurd (hr.tinj t T tj ti h g5 h') hne
         ·rw [List.length_append,Nat.add_mul,hnlen,← g7]; simp only; omega
        rw [List.length_append] at hvr
        refine StepOk.plain (K':=K') fr hr hB (zav ho ?_) hr' x1 (SR.of hvr) (fun n hn=>hn) rfl
        simp only [builtin,List.map_toArray,List.map_cons,List.map_nil,hq,Sem.run_bind,hrun,Result.andThen_ok,Sem.run_pure,hKw]
     ·cases hg
   ·cases hg
 ·rename_i id off len sz' ag hsv
  rw [hsv] at q1
  split at hg
  ·rename_i t' cs hob
   split at hg
   ·rename_i hc
    obtain ⟨c1,c2,c3,c4,c5,c6,c7,c8⟩:=hc
    subst c1 c2 c3
    simp only [Option.some.injEq,Prod.mk.injEq] at hg
    obtain ⟨rfl,rfl⟩:=hg
    exact zlo hr fr hB ho ht hi hisz hiz hzs q1 hob c4 c5 hsrc hnc hns c7 (by rw [hib]; exact c6)
   ·cases hg
  ·cases hg
 ·cases hg
end
section
variable {P:Program} {ro:Nat} {hp:List Nat} {K:Ctx} {H:GH} {lam:Nat→Option Nat} {nt:Nat} {e:Env} {a:Act} {o:Oper} {B gk:Nat}
theorem zpA {z:GV} {zv:Value} {sz n:Nat} (hpos:0<sz) (hzl:z.cells.length=sz) (hzc:CR K z.cells zv.cells) (m:Nat) (hm:n≤m) :
 ∀ (k:Nat) c v,(fl (List.replicate n z))[k]?=some c→(madeCells zv.cells (m * sz))[k]?=some v→VR K c v:=by
 intro k c v hc hv
 have hrep:∀ x,x∈List.replicate n z→x.cells.length=sz:=fun x hx=>by rw [List.eq_of_mem_replicate hx]; exact hzl
 have hrl:=za8 hrep
 rw [List.length_replicate] at hrl
 have hk:k<n * sz:=by rw [← hrl]; exact (List.getElem?_eq_some_iff.1 hc).1
 have hd:k / sz<n:=Nat.div_lt_of_lt_mul (by rw [Nat.mul_comm]; exact hk)
 have hmo:k % sz<sz:=Nat.mod_lt _ hpos
 have h3:=zjq hrep (k / sz) z (by simp [hd]) (k % sz) hmo
 have e1:k / sz * sz+k % sz=k:=by rw [Nat.mul_comm]; exact Nat.div_add_mod k sz
 rw [e1,hc] at h3
 have hzs:zv.cells.size=sz:=by rw [← hzc.1]; exact hzl
 have hkm:k<m * sz:=Nat.lt_of_lt_of_le hk (Nat.mul_le_mul_right _ hm)
 have hm2:k % sz<zv.cells.size:=by omega
 simp [madeCells,hkm,hzs] at hv
 exact hzc.2 _ c v h3.symm (by rw [← hv]; simp [hm2])
theorem zpB (hr:HR ro K H) (fr:FR K lam nt e a) (hB:e.gen≤B) {t el:TypeId} {sz by_ n':Nat} {x y:Operand} {z:GV} {s u:Src} {v:GV} {H':GH} (ho:o.op=.makeSlice t x y) (ht:P.underlying t=some (.slice el)) (hsz:zaS P el=some sz) (hby:zfM P el=some by_)
 (hz:zcz P el=some z) (hs:zbM ro x=some s) (hu:zbM ro y=some u) (hg:zle H el sz by_ z (zac e s) (zac e u)=some (v,H')):StepOk P ro K lam nt e a o H ⟨v,none,H',n'⟩ B gk:=by
 obtain ⟨q1,p1⟩:=zaa hr fr hs
 obtain ⟨q2,p2⟩:=zaa hr fr hu
 generalize zac e s=g1 at *
 generalize zac e u=g2 at *
 unfold zle at hg
 split at hg <;> try (cases hg; done)
 rename_i kl l kc c
 split at hg
 ·rename_i hc
  obtain ⟨c1,c2,c3,c4,c5,c6,c7⟩:=hc
  injection hg with hg
  injection hg with e1 e2
  subst e1 e2
  rw [zgO] at q1 q2
  obtain ⟨i,hi,hisz⟩:∃ i,P.info? el=some i∧i.size=sz:=by simpa [zaS,Option.map_eq_some_iff] using hsz
  have hib:i.bytes=by_:=by simpa [zfM,hi] using hby
  obtain ⟨zv,hiz,hzv⟩:∃ zv,i.zero=some zv∧zeY 8 zv=some z:=by
   simp only [zcz,hi,Option.bind_some,Option.bind_eq_some_iff] at hz
   exact hz
  have hzc:=(zaP K _ _ _ hzv).cells
  have hb2:(i.bytes:Int) * c≤281474976710656:=by
   have h1:i.bytes * c.toNat≤281474976710656:=by
    rw [hib]; simp only [room] at c3; omega
   have h2:((i.bytes * c.toNat:Nat):Int)≤281474976710656:=by omega
   rw [Int.natCast_mul] at h2
   have h3:((c.toNat:Nat):Int)=c:=by omega
   rwa [h3] at h2
  have hrun:=run_make (P:=P) K.w t el i zv ht hi hiz kl kc l c c1 c2 hb2 (by simp only [maxLen] at c4; omega)
  rw [hisz] at hrun
  have hle:l.toNat≤c.toNat:=by omega
  have f:=zcC hr K.w.drawn (.cells (madeCells zv.cells (c.toNat * sz)) el)
  have xo:=f.ext hr (fun t _ _=>⟨rfl,rfl⟩) (fun _=>False)
  have hrl:=za8 (sz:=sz) (xs:=List.replicate l.toNat z) (fun x hx=>by rw [List.eq_of_mem_replicate hx]; exact c5)
  rw [List.length_replicate] at hrl
  have hnew:=hr.newObj K.w.drawn (.cells (madeCells zv.cells (c.toNat * sz)) el) (.row el (fl (List.replicate l.toNat z)))
   ⟨by simp [zaq],hr.roN,K.w.heap.size,madeCells zv.cells (c.toNat * sz),by simp [zaq],zcw K.w K.w.drawn _,by simp [zaq,zdG],
     by rw [size_madeCells,hrl]; exact Nat.mul_le_mul_right _ hle,fun k c' v' h1 h2=>(zpA c6 c5 hzc c.toNat hle k c' v' h1 h2).ext xo⟩
  have hvr:VR (zaq K K.w.drawn (.cells (madeCells zv.cells (c.toNat * sz)) el)) (.hsl K.nO 0 l.toNat sz false) (.slice (some ⟨K.w.heap.size,0,none⟩) l.toNat c.toNat):=by
   refine .hsl (by simp [zaq]) (fun b hb=>?_) hle c4
   simp [zaq] at hb
   exact ⟨hb.symm,rfl,by simp [zaq,zdG,size_madeCells]⟩
  rw [hr.nO]
  refine StepOk.plain (K':=zaq K K.w.drawn (.cells (madeCells zv.cells (c.toNat * sz)) el)) fr hr hB ?_ hnew xo (SR.of hvr) (fun n hn=>hn) rfl
  simp only [execOp,ho,q1,q2,Sem.run_bind,hrun,Result.andThen_ok,Sem.run_pure]
  rfl
 ·cases hg
theorem zAQ (hr:HR ro K H) (fr:FR K lam nt e a) {u t el:TypeId} {x:Operand} {s:Src} {g:GV} (ho:o.op=.convert u t x) (hu:P.underlying u=some (.slice el)) (ht:P.underlying t=some .string) (hel:P.underlying el=some (.int .u8))
 (hs:zbM ro x=some s) (hg:zBU H ([s].map (zac e))=some g):za7 P K lam a o g:=by
 obtain ⟨q1,p1⟩:=zaa hr fr hs
 simp only [List.map_cons,List.map_nil] at hg
 generalize zac e s=x1 at *
 unfold zBU at hg
 split at hg <;> try (cases hg; done)
 rename_i id off len sz ag hx1
 injection hx1 with hx1
 subst hx1
 split at hg <;> try (cases hg; done)
 rename_i ty cs hob
 split at hg
 ·rename_i hle
  simp only [Option.map_eq_some_iff] at hg
  obtain ⟨l,hl,rfl⟩:=hg
  obtain ⟨hidn,hro,b',vs,h3,h4,hκ,h6,h6'⟩:=hr.obj id _ hob
  cases hq:(a.eval x) <;> rw [hq] at q1 <;> try (cases q1; done)
  have q1':VR K (.hsl id off len sz ag) _:=q1
  cases q1' with
  | @hsl _ _ _ _ _ b o' _ hid hh hcap hcmax =>
  obtain ⟨rfl,rfl,hk⟩:=hh b' h3
  have hvs:((vs.toList.drop o').take len).length=len:=by simp; omega
  have hxl:((cs.drop o').take len).length=len:=by simp; omega
  have hrel:∀ (i:Nat) c v,((cs.drop o').take len)[i]?=some c→((vs.toList.drop o').take len)[i]?=some v→VR K c v:=by
   intro i c v hc hv
   rw [List.getElem?_take] at hc hv
   split at hc
   ·rename_i hi
    rw [if_pos hi] at hv
    rw [List.getElem?_drop] at hc hv
    exact h6' (o'+i) c v hc (by simpa using hv)
   ·cases hc
  obtain ⟨ns,hn1,hn2⟩:=zfP _ l _ hl (by rw [hvs,hxl]) hrel
  have hload:=run_loadCells_list (P:=P) (w:=K.w) ⟨b',o',none⟩ ((vs.toList.drop o').take len) (by
   intro j v hj
   rw [List.getElem?_take] at hj
   split at hj
   ·rename_i hi
    rw [List.getElem?_drop] at hj
    rw [zch]
    simp only [World.cell?,h4,Option.isSome_none,Bool.false_eq_true,if_false]
    simpa using hj
   ·cases hj)
  rw [hvs] at hload
  refine ⟨.string ⟨l.toArray⟩, ?_,SR.of (.str _),fun n hn=>hn⟩
  simp only [execOp,ho,hq,convert,Sem.run_bind,run_underlying hu,run_underlying ht,run_underlying hel,Result.andThen_ok,Conv.bytesToString,hload,Sem.run_pure]
  rw [← Array.forIn_toList]
  simp only [List.toList_toArray]
  rw [hn1]
  rw [ze1 (P:=P) K.w _ (fun _ _=>rfl),zlj,← hn2]
  have e0:ByteArray.empty.data = #[]:=rfl
  rw [e0,Array.empty_append]; rfl
 ·cases hg
end
open Go.Maps (Keyed)
section
variable {P:Program} {K:Ctx}
theorem zpC {a b:GV} {l:Leaf} (ha:zat [l] [a]=true) (hb:zat [l] [b]=true):zsw a b=true↔a=b:=by
 have hbs:∀ {x y:ByteArray},(x == y)=true↔x=y:=by
  intro x y
  rcases x with ⟨x⟩; rcases y with ⟨y⟩
  constructor
  ·intro h
   have h2:(x == y)=true:=h
   rw [beq_iff_eq.1 h2]
  ·intro h
   injection h with h
   subst h
   show (x == x)=true
   exact beq_self_eq_true _
 cases l <;> cases a <;> simp [zat] at ha <;> cases b <;> simp [zat] at hb <;> simp [zsw,hbs]
theorem zcD {l:Leaf} {ls:List Leaf} {c:GV} {cs:List GV} (h:zat (l::ls) (c::cs)=true):zat [l] [c]=true∧zat ls cs=true:=by
 cases l <;> cases c <;> simp [zat] at h ⊢ <;> simp_all
theorem zhW:∀ {ls:List Leaf} {a b:List GV},zat ls a=true→zat ls b=true→(zhM a b=true↔a=b)
 | [],[],[],_,_=>by simp [zhM]
 | [],_::_,_,h,_=>by simp [zat] at h
 | [],_,_::_,_,h=>by simp [zat] at h
 | l::ls,[],_,h,_=>by cases l <;> simp [zat] at h
 | l::ls,_,[],_,h=>by cases l <;> simp [zat] at h
 | l::ls,x::xs,y::ys,ha,hb=>by
  obtain ⟨a1,a2⟩:=zcD ha
  obtain ⟨b1,b2⟩:=zcD hb
  simp only [zhM,Bool.and_eq_true,zpC a1 b1,zhW a2 b2,List.cons.injEq]
theorem zc3 {ag:Bool} {ls:List Leaf} {g:GV} (h:zaA ag ls g=true):zat ls g.cells=true:=by
 unfold zaA at h
 split at h
 ·simp only [Bool.and_eq_true] at h; exact h.2
 ·rename_i hne
  simp only [Bool.and_eq_true] at h
  have:g.cells=[g]:=by cases g <;> first | rfl | exact absurd rfl (hne _)
  rw [this]; exact h.2
theorem zaL {ag:Bool} {ls:List Leaf} {a b:GV} (ha:zaA ag ls a=true) (hb:zaA ag ls b=true):zbZ a b=true↔a=b:=by
 unfold zbZ
 rw [zhW (zc3 ha) (zc3 hb)]
 constructor
 ·intro h
  cases a <;> cases b <;> simp [zaA] at ha hb <;> simp [GV.cells] at h <;> simp_all
 ·intro h; rw [h]
theorem VR.keyCell {l:Leaf} {g:GV} {v:Value} (h:VR K g v) (hk:zat [l] [g]=true):(∃ b,l=.bool∧g=.bool b∧v=.bool b)∨(∃ k n,l=.int k∧g=.int k n∧v=.int k n∧(k.min≤n∧n≤k.max))∨(∃ s,l=.str∧g=.str s∧v=.string s∧s.size≤maxLen):=by
 cases l <;> cases g <;> simp [zat] at hk <;> cases h
 ·exact .inl ⟨_,rfl,rfl,rfl⟩
 ·obtain ⟨rfl,h1,h2⟩:=hk
  exact .inr (.inl ⟨_,_,rfl,rfl,rfl,h1,h2⟩)
 ·exact .inr (.inr ⟨_,rfl,rfl,rfl,hk⟩)
theorem zfg {l:Leaf} {a b:GV} {u v:Value} (ha:zat [l] [a]=true) (hb:zat [l] [b]=true) (h1:VR K a u) (h2:VR K b v):a=b↔u=v:=by
 rcases h1.keyCell ha with ⟨x,rfl,rfl,rfl⟩ | ⟨k,n,rfl,rfl,rfl,_⟩ | ⟨s,rfl,rfl,rfl,_⟩ <;> rcases h2.keyCell hb with ⟨x',e,rfl,rfl⟩ | ⟨k',n',e,rfl,rfl,_⟩ | ⟨s',e,rfl,rfl,_⟩ <;> cases e <;> simp
theorem zdH:∀ {ls:List Leaf} {cs:List GV},zat ls cs=true→ls.length=cs.length∧∀ (i:Nat) l c,ls[i]?=some l→cs[i]?=some c→zat [l] [c]=true
 | [],[],_=>⟨rfl,fun i l c h=>by simp at h⟩
 | [],_::_,h=>by simp [zat] at h
 | l::ls,[],h=>by cases l <;> simp [zat] at h
 | l::ls,c::cs,h=>by
  obtain ⟨h1,h2⟩:=zcD h
  obtain ⟨h3,h4⟩:=zdH h2
  refine ⟨by simp [h3],fun i l' c' hl hc=>?_⟩
  cases i with
  | zero=>simp at hl hc; subst hl hc; exact h1
  | succ i=>simp at hl hc; exact h4 i l' c' hl hc
theorem zhX {ag:Bool} {ls:List Leaf} {a b:GV} {u v:Value} (ha:zaA ag ls a=true) (hb:zaA ag ls b=true) (h1:VR K a u) (h2:VR K b v):a=b↔u=v:=by
 have ca:=zc3 ha
 have cb:=zc3 hb
 obtain ⟨a1,a2⟩:=zdH ca
 obtain ⟨b1,b2⟩:=zdH cb
 by_cases hag:ag=true
 ·subst hag
  cases a <;> simp [zaA] at ha
  cases b <;> simp [zaA] at hb
  rename_i xs ys
  cases h1 with
  | @agg _ us hl1 hv1 =>
  cases h2 with
  | @agg _ vs hl2 hv2 =>
  simp only [GV.cells] at a1 a2 b1 b2
  simp only [GV.agg.injEq,Value.agg.injEq]
  constructor
  ·intro e
   subst e
   refine Array.ext (by omega) (fun i hi hi'=>?_)
   have hx:i<xs.length:=by omega
   have hlx:i<ls.length:=by omega
   exact (zfg (K:=K) (a2 i ls[i] xs[i] (by simp [hlx]) (by simp [hx])) (a2 i ls[i] xs[i] (by simp [hlx]) (by simp [hx])) (hv1 i _ _ (by simp [hx]) (by simp [hi])) (hv2 i _ _ (by simp [hx]) (by simp [hi']))).1 rfl
  ·intro e
   subst e
   refine List.ext_getElem (by omega) (fun i hi hi'=>?_)
   have hlx:i<ls.length:=by omega
   have hu:i<us.size:=by omega
   exact (zfg (K:=K) (a2 i ls[i] xs[i] (by simp [hlx]) (by simp [hi])) (b2 i ls[i] ys[i] (by simp [hlx]) (by simp [hi'])) (hv1 i _ _ (List.getElem?_eq_getElem hi) (Array.getElem?_eq_getElem hu)) (hv2 i _ _ (List.getElem?_eq_getElem hi') (Array.getElem?_eq_getElem hu))).2 rfl
 ·have single:∀ {g:GV},zaA ag ls g=true→∃ l,ls=[l]∧zat [l] [g]=true:=by
   intro g hg
   have hc:zat ls [g]=true:=by
    unfold zaA at hg
    split at hg
    ·simp [hag] at hg
    ·simp only [Bool.and_eq_true] at hg; exact hg.2
   cases ls with
   | nil=>simp [zat] at hc
   | cons l ls =>
    obtain ⟨h3,h4⟩:=zcD hc
    cases ls with
    | nil=>exact ⟨l,rfl,h3⟩
    | cons l' ls=>cases l' <;> simp [zat] at h4
  obtain ⟨l,rfl,f1⟩:=single ha
  obtain ⟨l',e,f2⟩:=single hb
  injection e with e; subst e
  exact zfg f1 f2 h1 h2
end
section
variable {P:Program} {ro:Nat} {hp:List Nat} {K:Ctx} {H:GH} {lam:Nat→Option Nat} {nt:Nat} {e:Env} {a:Act} {o:Oper} {B gk:Nat}
theorem zdI {t:TypeId} {l:Leaf} (h:zgu P t=some l):(l=.bool∧P.underlying t=some .bool)∨(∃ k,l=.int k∧P.underlying t=some (.int k))∨(l=.str∧P.underlying t=some .string):=by
 unfold zgu at h
 split at h
 ·rename_i hu; injection h with h; exact .inl ⟨h.symm,hu⟩
 ·rename_i k hu; injection h with h; exact .inr (.inl ⟨k,h.symm,hu⟩)
 ·rename_i hu; injection h with h; exact .inr (.inr ⟨h.symm,hu⟩)
 ·cases h
theorem zek {k:TypeId} {ag:Bool} {ls:List Leaf} (h:zaY P k=some (ag,ls)) :
 (∃ fs,ag=true∧P.underlying k=some (.struct fs)∧k<P.types.size∧P.keyTypeAt 3 k=true∧P.keyType k=true∧P.cellsOf k=fs.size∧zb0 P 0 fs.toList=some ls) ∨
 (∃ l,ag=false∧ls=[l]∧zgu P k=some l):=by
 unfold zaY at h
 split at h
 ·rename_i fs hu
  split at h
  ·rename_i hc
   simp only [Option.map_eq_some_iff,Prod.mk.injEq] at h
   obtain ⟨ls',h1,rfl,rfl⟩:=h
   exact .inl ⟨fs,rfl,hu,hc.1,hc.2.1,hc.2.2.1,hc.2.2.2,h1⟩
  ·cases h
 ·simp only [Option.map_eq_some_iff,Prod.mk.injEq] at h
  obtain ⟨l,h1,rfl,rfl⟩:=h
  exact .inr ⟨l,rfl,rfl,h1⟩
 ·cases h
theorem zfT (hl:laidOutB P=true) {k:TypeId} {ag:Bool} {ls:List Leaf} (h:zaY P k=some (ag,ls)):Keyed P k:=by
 rcases zek h with ⟨fs,_,hu,h1,h2,_⟩ | ⟨l,_,_,h1⟩
 ·exact Maps.Keyed.of_law (deep_law_laid hl (m:=3) (by omega) h1 h2 (by rw [hu]))
 ·rcases zdI h1 with ⟨_,hu⟩ | ⟨q,_,hu⟩ | ⟨_,hu⟩
  ·exact Maps.bool_keyed hu
  ·exact Maps.int_keyed hu
  ·exact Maps.Keyed.of_law (Go.WideMaps.string_law hu)
theorem zsN {t:TypeId} {l:Leaf} (h:zgu P t=some l) {g:GV} {v:Value} (hv:VR K g v) (hg:zat [l] [g]=true) (d:Nat):∃ x,P.keyLits (d+1) t [v]=some [x]:=by
 rcases hv.keyCell hg with ⟨b,rfl,rfl,rfl⟩ | ⟨k,n,rfl,rfl,rfl,hn⟩ | ⟨s,rfl,rfl,rfl,hs⟩ <;> rcases zdI h with ⟨e,hu⟩ | ⟨q,e,hu⟩ | ⟨e,hu⟩ <;> cases e
 ·exact ⟨.bool b,by simp [Program.keyLits,hu]⟩
 ·exact ⟨_,by simp [Program.keyLits,hu,Lit.wf,hn]; rfl⟩
 ·exact ⟨_,by simp [Program.keyLits,hu,hs]; rfl⟩
theorem zhY (d:Nat):∀ (fs:List Field) (off:Nat) (ls:List Leaf),zb0 P off fs=some ls→∀ (gs:List GV) (vs:List Value),zat ls (gs.drop off)=true→gs.length=vs.length→off+fs.length=gs.length→(∀ (i:Nat) g v,gs[i]?=some g→vs[i]?=some v→VR K g v) →
 ∃ r,(fs.mapM fun f=>P.keyLits (d+1) f.type ((vs.drop f.offset).take (P.cellsOf f.type)))=some r
 | [],_,_,_,_,_,_,_,_,_=>⟨[],rfl⟩
 | f::fs,off,ls,h,gs,vs,hf,hlen,hn,hv=>by
  simp only [zb0] at h
  split at h
  case isFalse=>cases h
  rename_i hc
  obtain ⟨c1,c2,c3⟩:=hc
  split at h
  case h_2=>cases h
  rename_i l ls' h1 h2
  injection h with h; subst h
  simp only [List.length_cons] at hn
  have hlt:off<gs.length:=by omega
  have hlv:off<vs.length:=by omega
  rw [List.drop_eq_getElem_cons hlt] at hf
  obtain ⟨f1,f2⟩:=zcD hf
  obtain ⟨x,hx⟩:=zsN (K:=K) h1 (hv off gs[off] vs[off] (List.getElem?_eq_getElem hlt) (List.getElem?_eq_getElem hlv)) f1 d
  obtain ⟨r,hr⟩:=zhY d fs (off+1) ls' h2 gs vs f2 hlen (by omega) hv
  have ht:(vs.drop f.offset).take (P.cellsOf f.type)=[vs[off]]:=by
   rw [c1,c3,List.drop_eq_getElem_cons hlv]; rfl
  refine ⟨[x]::r, ?_⟩
  rw [List.mapM_cons,ht,hx,hr]; rfl
theorem zgR:∀ (fs:List Field) (off:Nat) (ls:List Leaf),zb0 P off fs=some ls→fs.all (fun f=>f.name != "_")=true
 | [],_,_,_=>rfl
 | f::fs,off,ls,h=>by
  simp only [zb0] at h
  split at h
  case isFalse=>cases h
  rename_i hc
  split at h
  case h_2=>cases h
  rename_i l ls' h1 h2
  have:=zgR fs (off+1) ls' h2
  simpa [hc.2.1] using this
theorem zjs:∀ (fs:List Field) (off:Nat) (ls:List Leaf),zb0 P off fs=some ls→ls.length=fs.length
 | [],_,_,h=>by simp [zb0] at h; subst h; rfl
 | f::fs,off,ls,h=>by
  simp only [zb0] at h
  split at h
  case isFalse=>cases h
  split at h
  case h_2=>cases h
  rename_i l ls' h1 h2
  injection h with h; subst h
  simp [zjs fs (off+1) ls' h2]
theorem zdJ {k:TypeId} {ag:Bool} {ls:List Leaf} (h:zaY P k=some (ag,ls)) {g:GV} {v:Value} (hv:VR K g v) (hg:zaA ag ls g=true):∃ l,keyOf P k v=some l:=by
 have hc:=zc3 hg
 rcases zek h with ⟨fs,rfl,hu,h1,h2,h3,h4,h5⟩ | ⟨l,rfl,rfl,h1⟩
 ·cases g <;> simp [zaA] at hg
  rename_i gs
  cases hv with
  | @agg _ vs hl hvs =>
  simp only [GV.cells] at hc
  have hfl:=zjs fs.toList 0 ls h5
  have hkl:=(zdH hc).1
  have hsz:vs.size=fs.size:=by rw [← hl,← hkl,hfl]; simp
  obtain ⟨r,hr⟩:=zhY (K:=K) (P.types.size - 1) fs.toList 0 ls h5 gs vs.toList (by simpa using hc) (by simpa using hl) (by rw [Nat.zero_add,← hfl]; exact hkl) (fun i g v hg hv=>hvs i g v hg (by simpa using hv))
  have hd:P.types.size - 1+1=P.types.size:=Nat.sub_add_cancel (Nat.lt_of_le_of_lt (Nat.zero_le _) h1)
  rw [hd] at hr
  have hnm:=zgR fs.toList 0 ls h5
  have hall:fs.all (fun f=>f.name != "_")=true:=by
   rw [← Array.all_toList]; exact hnm
  refine ⟨.string (keyBytes r.flatten), ?_⟩
  simp only [keyOf,hu,h3,Value.formed,h4,hsz,beq_self_eq_true,Bool.and_self,if_true,Value.cells,Program.keyLits]
  rw [if_pos ⟨by simpa using hsz,hall⟩,hr]
  rfl
 ·have hf:zat [l] [g]=true:=by
   unfold zaA at hg
   split at hg
   ·simp at hg
   ·simpa using hg
  rcases hv.keyCell hf with ⟨b,rfl,rfl,rfl⟩ | ⟨q,n,rfl,rfl,rfl,hn⟩ | ⟨s,rfl,rfl,rfl,hs⟩ <;> rcases zdI h1 with ⟨e,hu⟩ | ⟨q',e,hu⟩ | ⟨e,hu⟩ <;> cases e
  ·exact ⟨_,by simp [keyOf,mapKey,hu]; rfl⟩
  ·exact ⟨_,by simp [keyOf,mapKey,hu,Lit.wf,hn]; rfl⟩
  ·exact ⟨_,by simp [keyOf,mapKey,hu,hs]; rfl⟩
end
section
variable {P:Program} {ro:Nat} {hp:List Nat} {K:Ctx} {H:GH} {lam:Nat→Option Nat} {nt:Nat} {e:Env} {a:Act} {o:Oper} {B gk:Nat}
structure Ents (K:Ctx) (ag:Bool) (ls:List Leaf) (es es':List (GV × GV)) (ents:Array MapEntry):Prop where
 perm:es'.Perm es
 len:es'.length=ents.size
 vr:∀ (i:Nat) p m,es'[i]?=some p→ents[i]?=some m→VR K p.1 m.key∧VR K p.2 m.val
 key:∀ p∈es',zaA ag ls p.1=true
 one:es'.Pairwise (fun a b=>a.1≠b.1)
 one':es.Pairwise (fun a b=>a.1≠b.1)
theorem zgy {ag:Bool} {ls:List Leaf} {es:List (GV × GV)} {ents:Array MapEntry} {clock:Nat} (hw:zpl ag ls es) (h:zAJ K es ents clock):∃ es',Ents K ag ls es es' ents:=by
 obtain ⟨_,es',h1,h2,h3⟩:=h
 exact ⟨es',h1,h2,h3,fun p hp=>hw.1 p (h1.mem_iff.1 hp),(h1.symm.pairwise_iff (fun {a b} (h:a.1≠b.1)=>h.symm)).1 hw.2,hw.2⟩
theorem zhl {es:List (GV × GV)} (h:es.Pairwise (fun a b=>a.1≠b.1)) {ag:Bool} {ls:List Leaf} (hk:∀ p∈es,zaA ag ls p.1=true) {k:GV} (hkk:zaA ag ls k=true) {p:GV × GV} (hp:p∈es) (hpk:p.1=k):zaX es k=some p.2:=by
 unfold zaX
 induction es with
 | nil=>cases hp
 | cons q es ih =>
  obtain ⟨h1,h2⟩:=List.pairwise_cons.1 h
  rw [List.find?_cons]
  rcases List.mem_cons.1 hp with rfl | hp'
  ·rw [(zaL (hk p (by simp)) hkk).2 hpk]; rfl
  ·have hne:¬ zbZ q.1 k=true:=fun e=>by
    have:=(zaL (hk q (by simp)) hkk).1 e
    exact h1 p hp' (this.trans hpk.symm)
   rw [show zbZ q.1 k=false from by simpa using hne]
   exact ih h2 (fun p hp=>hk p (by simp [hp])) hp'
theorem zlp {es:List (GV × GV)} {ag:Bool} {ls:List Leaf} (hk:∀ p∈es,zaA ag ls p.1=true) {k:GV} (hkk:zaA ag ls k=true) (hn:∀ p∈es,p.1≠k):zaX es k=none:=by
 unfold zaX
 rw [List.find?_eq_none.2 (fun p hp e=>hn p hp ((zaL (hk p hp) hkk).1 e))]; rfl
theorem zfU (hl:laidOutB P=true) {k:TypeId} {ag:Bool} {ls:List Leaf} (hk:zaY P k=some (ag,ls)) {es es':List (GV × GV)} {ents:Array MapEntry} (E:Ents K ag ls es es' ents) {g:GV} {v:Value} (hv:VR K g v) (hg:zaA ag ls g=true) (w:World) :
 ((Instr.findKey k v ents.toList).run P w=.ok none w∧zaX es g=none∧∀ p∈es',p.1≠g) ∨
 ∃ j m p,(Instr.findKey k v ents.toList).run P w=.ok (some (j,m.val)) w∧ents[j]?=some m∧es'[j]?=some p∧p.1=g∧m.key=v∧zaX es g=some p.2:=by
 have Q:=zfT hl hk
 obtain ⟨kl,hkl⟩:=zdJ hk hv hg
 have hkeys:∀ m∈ents.toList,∃ l,keyOf P k m.key=some l:=fun m hm=>by
  obtain ⟨i,hi,rfl⟩:=List.mem_iff_getElem.1 hm
  have hi':i<ents.size:=by simpa using hi
  have hie:i<es'.length:=by rw [E.len]; exact hi'
  have:=E.vr i es'[i] ents[i] (List.getElem?_eq_getElem hie) (Array.getElem?_eq_getElem hi')
  exact zdJ hk (by simpa using this.1) (E.key _ (List.getElem_mem hie))
 have hkes:∀ p∈es,zaA ag ls p.1=true:=fun p hp=>E.key p (E.perm.mem_iff.2 hp)
 rcases Q.find w hkl ents.toList hkeys with ⟨h1,h2⟩ | ⟨j,m,h1,h2,h3⟩
 ·left
  have hne:∀ p∈es',p.1≠g:=fun p hp e=>by
   obtain ⟨i,hi,rfl⟩:=List.mem_iff_getElem.1 hp
   have hi':i<ents.size:=by rw [← E.len]; exact hi
   have hvr:=E.vr i es'[i] ents[i] (List.getElem?_eq_getElem hi) (Array.getElem?_eq_getElem hi')
   exact h2 ents[i] (by simp) ((zhX (E.key _ hp) hg hvr.1 hv).1 e)
  exact ⟨h1,zlp hkes hg (fun p hp=>hne p (E.perm.mem_iff.2 hp)),hne⟩
 ·right
  have hj:ents[j]?=some m:=by simpa using h2
  have hjl:j<ents.size:=(Array.getElem?_eq_some_iff.1 hj).1
  have hje:j<es'.length:=by rw [E.len]; exact hjl
  have hp:=List.getElem?_eq_getElem hje
  have hvr:=E.vr j es'[j] m hp hj
  have hpk:es'[j].1=g:=(zhX (E.key _ (List.getElem_mem hje)) hg hvr.1 hv).2 h3
  exact ⟨j,m,es'[j],h1,hj,hp,hpk,h3,zhl E.one' hkes hg (E.perm.mem_iff.1 (List.getElem_mem hje)) hpk⟩
theorem zpD (hl:laidOutB P=true) (hr:HR ro K H) (fr:FR K lam nt e a) (hB:e.gen≤B) {t k el:TypeId} {x i:Operand} {ok:Bool} {ag:Bool} {ls:List Leaf} {z:GV} {l:List Src} {mg kg:GV} {r:Option GV} {n':Nat}
 (ho:o.op=.lookup t x i ok) (hu:P.underlying t=some (.map k el)) (hk:zaY P k=some (ag,ls)) (hz:zcz P el=some z) (hs:zbn ro [x,i]=some l) (hl2:l.map (zac e)=[mg,kg]) (hg:ze8 H ag ls mg kg=some r) :
 StepOk P ro K lam nt e a o H ⟨if ok then .tup [r.getD z,.bool r.isSome] else r.getD z,none,H,n'⟩ B gk:=by
 obtain ⟨s,u,h1,h2,rfl⟩:=zbj hs
 obtain ⟨q1,p1⟩:=zaa hr fr h1
 obtain ⟨q2,p2⟩:=zaa hr fr h2
 simp only [List.map_cons,List.map_nil,List.cons.injEq,and_true] at hl2
 rw [hl2.1] at q1
 rw [hl2.2] at q2
 obtain ⟨zv,hzv,hzr⟩:=zc2 hz
 have hzvr:VR K z zv:=zaP K _ _ _ hzv
 have Q:=zfT hl hk
 have fin:∀ v:Value,(Instr.lookup t (a.eval x) (a.eval i) ok).run P K.w=.ok (if ok then .tuple #[v,.bool r.isSome] else v) K.w→VR K (r.getD z) v→StepOk P ro K lam nt e a o H ⟨if ok then .tup [r.getD z,.bool r.isSome] else r.getD z,none,H,n'⟩ B gk:=by
  intro v hrun hv
  cases ok with
  | false =>
   refine zaQ hr fr hB ⟨v, ?_,SR.of hv,zai hv.ok⟩
   simp only [Bool.false_eq_true,if_false] at hrun
   simp [execOp,ho,hrun]
  | true =>
   refine zaQ hr fr hB ⟨.tuple #[v,.bool r.isSome], ?_,SR.of (.tup (by simp) (fun j c u hc hu=>?_)),zai rfl⟩
   ·simp only [if_true] at hrun
    simp [execOp,ho,hrun]
   ·match j with
    | 0=>simp at hc hu; subst hc hu; exact hv
    | 1=>simp at hc hu; subst hc hu; exact .bool _
    | n+2=>simp at hc
 have hkg:zaA ag ls kg=true:=by
  unfold ze8 at hg
  split at hg
  ·split at hg
   ·assumption
   ·cases hg
  ·split at hg
   ·split at hg
    ·rename_i hc; exact hc.2.2
    ·cases hg
   ·cases hg
  ·cases hg
 have hkvr:VR K kg (a.eval i):=q2.vr (by cases kg <;> first | rfl | simp [zaA,zat] at hkg | (cases ls <;> simp [zaA,zat] at hkg))
 obtain ⟨kl,hkl⟩:=zdJ hk hkvr hkg
 cases mg <;> simp only [ze8] at hg <;> try (cases hg; done)
 case nilmap =>
  rw [if_pos hkg] at hg
  injection hg with hg; subst hg
  cases hq:a.eval x <;> rw [hq] at q1 <;> try (cases q1; done)
  cases q1
  have hfk:(Instr.findKey k (a.eval i) []).run P K.w=.ok none K.w:=by
   rcases Q.find K.w hkl [] (fun _ h=>by cases h) with ⟨h1,_⟩ | ⟨j,m,_,h2,_⟩
   ·exact h1
   ·simp at h2
  refine fin zv ?_ hzvr
  rw [hq]
  cases ok <;> simp [Instr.lookup,run_underlying hu,Q.check K.w _ hkl,hfk,hzr]
 case map id =>
  split at hg
  case h_2=>cases hg
  rename_i ag' ls' es hd
  split at hg
  case isFalse=>cases hg
  rename_i hc
  obtain ⟨rfl,rfl,_⟩:=hc
  injection hg with hg; subst hg
  obtain ⟨hw,b,ents,clock,h3,h4,hm⟩:=hr.obj id _ hd
  cases hq:a.eval x <;> rw [hq] at q1 <;> try (cases q1; done)
  have q1':VR K (.map id) _:=q1
  cases q1' with
  | @map _ b' hid hpp =>
  obtain rfl:=hpp b h3
  obtain ⟨es',E⟩:=zgy hw hm
  rcases zfU hl hk E hkvr hkg K.w with ⟨f1,f2,_⟩ | ⟨j,m,p,f1,f2,f3,f4,f5,f6⟩
  ·refine fin zv ?_ (by rw [f2]; exact hzvr)
   rw [hq,f2]
   cases ok <;> simp [Instr.lookup,run_underlying hu,MapKept.run_getObj_map h4,Q.check K.w _ hkl,f1,hzr]
  ·refine fin m.val ?_ (by rw [f6]; exact (E.vr j p m f3 f2).2)
   rw [hq,f6]
   cases ok <;> simp [Instr.lookup,run_underlying hu,MapKept.run_getObj_map h4,Q.check K.w _ hkl,f1]
theorem zsO (hr:HR ro K H) (fr:FR K lam nt e a) (hB:e.gen≤B) {t k el:TypeId} {x:Operand} {s:Src} {mg:GV} {n n':Nat}
 (ho:o.op=.call { callee:=.builtin .len,args := #[x],argTypes := #[t] }) (hu:P.underlying t=some (.map k el)) (hs:zbM ro x=some s) (hl2:zac e s=mg) (hg:zpk H mg=some n) :
 StepOk P ro K lam nt e a o H ⟨.int .i64 n,none,H,n'⟩ B gk:=by
 obtain ⟨q1,p1⟩:=zaa hr fr hs
 rw [hl2] at q1
 cases mg <;> simp only [zpk] at hg <;> try (cases hg; done)
 case nilmap =>
  injection hg with hg; subst hg
  cases hq:a.eval x <;> rw [hq] at q1 <;> try (cases q1; done)
  cases q1
  refine zaQ hr fr hB ⟨.int .i64 0,zav ho ?_,SR.of (.int _ _),zai rfl⟩
  simp [builtin,Builtin.len_,run_underlying hu,hq,goInt]
 case map id =>
  split at hg
  case h_2=>cases hg
  rename_i ag' ls' es hd
  injection hg with hg; subst hg
  obtain ⟨hw,b,ents,clock,h3,h4,hm⟩:=hr.obj id _ hd
  cases hq:a.eval x <;> rw [hq] at q1 <;> try (cases q1; done)
  have q1':VR K (.map id) _:=q1
  cases q1' with
  | @map _ b' hid hpp =>
  obtain rfl:=hpp b h3
  obtain ⟨es',E⟩:=zgy hw hm
  have hlen:es.length=ents.size:=by rw [← E.len]; exact E.perm.length_eq.symm
  refine zaQ hr fr hB ⟨.int .i64 es.length,zav ho ?_,SR.of (.int _ _),zai rfl⟩
  rw [hlen]
  simp [builtin,Builtin.len_,run_underlying hu,hq,goInt,MapKept.run_getObj_map h4]
theorem zpE (hr:HR ro K H) (fr:FR K lam nt e a) (hB:e.gen≤B) {t:TypeId} {ag:Bool} {ls:List Leaf} {n':Nat} (ho:o.op=.makeMap t none) :
 StepOk P ro K lam nt e a o H ⟨.map H.objs.length,none,H.newObj (.map ag ls []),n'⟩ B gk:=by
 have hn:=hr.nO
 have f:=zcC hr K.w.drawn (.map #[] 0)
 have hr':=hr.newObj K.w.drawn (.map #[] 0) (.map ag ls []) ⟨⟨fun p h=>(by cases h),.nil⟩,K.w.heap.size,#[],0,by simp [zaq],by show (K.w.heap.push _)[K.w.heap.size]?=_; simp,⟨fun m h=>(by simp at h),by simp⟩,[],.refl _,rfl,fun i p m h=>(by simp at h)⟩
 refine StepOk.plain (K':=zaq K K.w.drawn (.map #[] 0)) (rv:=.map (some K.w.heap.size)) fr hr hB ?_ hr' (f.ext hr (fun t _ _=>⟨rfl,rfl⟩) _) (SR.of (.map (by simp [zaq]; omega) (fun c hc=>?_))) (zai rfl) rfl
 ·simp [execOp,ho,Instr.makeMap,newObj,zaq]
  rfl
 ·simp only [zaq] at hc
  rw [if_pos hn] at hc
  exact (Option.some.inj hc).symm
end
section
variable {P:Program} {ro:Nat} {hp:List Nat} {K:Ctx} {H:GH} {lam:Nat→Option Nat} {nt:Nat} {e:Env} {a:Act} {o:Oper} {B gk:Nat}
theorem zke {w:World} {b:Nat} {ents:Array MapEntry} {clock:Nat} (x:Obj) (hb:w.heap[b]?=some (.map ents clock)):WSet w { w with heap:=w.heap.setIfInBounds b x } b :=
 ⟨by simp,rfl,rfl,rfl,fun k hk=>by simp [Array.getElem?_setIfInBounds,Ne.symm hk],fun _=>Nat.le_refl _⟩
theorem zhZ {w:World} {b:Nat} {ents:Array MapEntry} {clock:Nat} (x:Obj) (hb:w.heap[b]?=some (.map ents clock)):({ w with heap:=w.heap.setIfInBounds b x } : World).heap[b]?=some x:=by
 have:=(Array.getElem?_eq_some_iff.1 hb).1
 simp [Array.getElem?_setIfInBounds,this]
theorem zeC {ag:Bool} {ls:List Leaf} {es:List (GV × GV)} (hk:∀ p∈es,zaA ag ls p.1=true) {k:GV} (hkk:zaA ag ls k=true) (hn:∀ p∈es,p.1≠k) (v:GV):zas es k v=es++[(k,v)]:=by
 unfold zas
 rw [if_neg]
 simp only [List.any_eq_true,not_exists,not_and]
 exact fun p hp h=>hn p hp ((zaL (hk p hp) hkk).1 h)
theorem zgz {ag:Bool} {ls:List Leaf} {es:List (GV × GV)} (hk:∀ p∈es,zaA ag ls p.1=true) {k:GV} (hkk:zaA ag ls k=true) {q:GV × GV} (hq:q∈es) (hqk:q.1=k) (v:GV):zas es k v=es.map (fun p=>if zbZ p.1 k then (k,v) else p):=by
 unfold zas
 rw [if_pos (List.any_eq_true.2 ⟨q,hq,(zaL (hk q hq) hkk).2 hqk⟩)]
theorem zlq {ag:Bool} {ls:List Leaf} {es:List (GV × GV)} (h:zpl ag ls es) {k:GV} (hkk:zaA ag ls k=true) (v:GV):zpl ag ls (zas es k v):=by
 obtain ⟨h1,h2⟩:=h
 by_cases hq:∃ q∈es,q.1=k
 ·obtain ⟨q,hq,hqk⟩:=hq
  rw [zgz h1 hkk hq hqk]
  have hf:∀ p∈es,(if zbZ p.1 k then (k,v) else p).1=p.1:=fun p hp=>by
   by_cases he:zbZ p.1 k=true
   ·rw [if_pos he]; exact ((zaL (h1 p hp) hkk).1 he).symm
   ·rw [if_neg he]
  constructor
  ·intro p hp
   obtain ⟨r,hr,rfl⟩:=List.mem_map.1 hp
   rw [hf r hr]; exact h1 r hr
  ·rw [List.pairwise_map]
   refine List.Pairwise.imp_of_mem (fun {a b} ha hb h=>?_) h2
   rw [hf a ha,hf b hb]; exact h
 ·have hn:∀ p∈es,p.1≠k:=fun p hp e=>hq ⟨p,hp,e⟩
  rw [zeC h1 hkk hn]
  constructor
  ·intro p hp
   rcases List.mem_append.1 hp with hp | hp
   ·exact h1 p hp
   ·simp at hp; subst hp; exact hkk
  ·rw [List.pairwise_append]
   exact ⟨h2,by simp,fun a ha b hb=>by simp at hb; subst hb; exact hn a ha⟩
theorem zsP {ag:Bool} {ls:List Leaf} {es:List (GV × GV)} (h:zpl ag ls es) (k:GV):zpl ag ls (zfH es k) :=
 ⟨fun p hp=>h.1 p (List.mem_filter.1 hp).1,h.2.filter _⟩
theorem Ents.ne {ag:Bool} {ls:List Leaf} {es es':List (GV × GV)} {ents:Array MapEntry} (E:Ents K ag ls es es' ents) {i j:Nat} {p q:GV × GV} (hi:es'[i]?=some p) (hj:es'[j]?=some q) (hne:i≠j):p.1≠q.1:=by
 obtain ⟨h1,rfl⟩:=List.getElem?_eq_some_iff.1 hi
 obtain ⟨h2,rfl⟩:=List.getElem?_eq_some_iff.1 hj
 rcases Nat.lt_or_gt_of_ne hne with h | h
 ·exact List.pairwise_iff_getElem.1 E.one i j h1 h2 h
 ·exact (List.pairwise_iff_getElem.1 E.one j i h2 h1 h).symm
theorem zjt (hl:laidOutB P=true) (hr:HR ro K H) (fr:FR K lam nt e a) (hB:e.gen≤B) {t k el:TypeId} {x y z:Operand} {ag:Bool} {ls:List Leaf} {mg kg vg:GV} {H':GH} {n':Nat}
 (ho:o.op=.mapUpdate t x y z) (hu:P.underlying t=some (.map k el)) (hk:zaY P k=some (ag,ls)) (q1:SR K lam mg (a.eval x)) (q2:SR K lam kg (a.eval y)) (q3:SR K lam vg (a.eval z)) (hg:zbb H ag ls mg kg vg=some H') :
 StepOk P ro K lam nt e a o H ⟨.junk,none,H',n'⟩ B gk:=by
 have Q:=zfT hl hk
 cases mg <;> simp only [zbb] at hg <;> try (cases hg; done)
 rename_i id
 split at hg
 case h_2=>cases hg
 rename_i ag' ls' es hd
 split at hg
 case isFalse=>cases hg
 rename_i hc
 obtain ⟨rfl,rfl,hkg,hvok,hbo⟩:=hc
 injection hg with hg; subst hg
 have hkvr:VR K kg (a.eval y):=q2.vr (by cases kg <;> first | rfl | simp [zaA,zat] at hkg | (cases ls' <;> simp [zaA,zat] at hkg))
 have hvvr:VR K vg (a.eval z):=q3.vr hvok
 obtain ⟨kl,hkl⟩:=zdJ hk hkvr hkg
 obtain ⟨hw,b,ents,clock,h3,h4,hm⟩:=hr.obj id _ hd
 cases hq:a.eval x <;> rw [hq] at q1 <;> try (cases q1; done)
 have q1':VR K (.map id) _:=q1
 cases q1' with
 | @map _ b' hid hpp =>
 obtain rfl:=hpp b h3
 obtain ⟨es',E⟩:=zgy hw hm
 obtain ⟨⟨hbn,hbd⟩,_⟩:=hm
 have hkes:∀ p∈es,zaA ag' ls' p.1=true:=hw.1
 have done:∀ ents' clock',(Instr.mapUpdate t (a.eval x) (a.eval y) (a.eval z)).run P K.w=.ok () { K.w with heap:=K.w.heap.setIfInBounds b (.map ents' clock') } →
  (∀ K':Ctx,Ext (fun _=>False) H.bo H.bt K K'→zAJ K' (zas es kg vg) ents' clock')→StepOk P ro K lam nt e a o H ⟨.junk,none,{ H with objs:=H.objs.set id (.map ag' ls' (zas es kg vg)) },n'⟩ B gk:=by
  intro ents' clock' hrun hmr
  have hws:=zke (.map ents' clock') h4
  have x0:Ext (fun _=>False) H.bo H.bt K (K.at _):=(hr.obj_set h3 hbo hws (o:=.dead) trivial).2
  obtain ⟨hr',x1⟩:=hr.obj_set h3 hbo hws (o:=.map ag' ls' (zas es kg vg)) ⟨zlq hw hkg vg,b,ents',clock',h3,zhZ _ h4,hmr _ x0⟩
  refine ⟨_,lam,undef,.inr ⟨by simp [execOp,ho,hrun,Ctx.at],rfl⟩,hr',x1.none,fun _ _ h=>h,fun _ _ h=>.inl h,fun _ _=>rfl,fun dst hd=>?_⟩
  exact fr.step (m:=none) (B:=B) x1 (fun _ _ h=>h) (fun n b h=>(x1.loc b (fr.lamρ n b h)).1) fr.linj (fun n hn=>fr.gen n (by omega)) (fun n b h _=>(x1.loc b (fr.lamρ n b h)).2 (fun h=>h.elim)) hd trivial
   (fun n hn=>absurd hn (fun h=>h)) (fun n h=>by cases h) (fun s g h=>by cases h)
 rcases zfU hl hk E hkvr hkg K.w with ⟨f1,f2,hne⟩ | ⟨j,m,p,f1,f2,f3,f4,f5,f6⟩
 ·have hne':∀ p∈es,p.1≠kg:=fun p hp=>hne p (E.perm.mem_iff.2 hp)
  refine done (ents.push ⟨a.eval y,a.eval z,clock⟩) (clock+1) ?_ ?_
  ·rw [hq]
   simp [Instr.mapUpdate,run_underlying hu,MapKept.run_getObj_map h4,Q.check K.w false hkl,f1,MapKept.run_setObj_map _ h4]
  ·intro K' x
   refine ⟨⟨?_, ?_⟩,es'++[(kg,vg)], ?_,by simp [E.len], ?_⟩
   ·intro m hm
    simp only [Array.toList_push,List.mem_append,List.mem_singleton] at hm
    rcases hm with hm | rfl
    ·exact Nat.lt_succ_of_lt (hbn m hm)
    ·exact Nat.lt_succ_self _
   ·rw [Array.toList_push,List.pairwise_append]
    exact ⟨hbd,by simp,fun c hc d hd=>by simp at hd; subst hd; exact Nat.ne_of_lt (hbn c hc)⟩
   ·rw [zeC hkes hkg hne']
    exact E.perm.append_right _
   ·intro i p m hp hm
    rw [Array.getElem?_push] at hm
    split at hm
    ·rename_i hi
     injection hm with hm; subst hm
     rw [List.getElem?_append_right (by have:=E.len; omega)] at hp
     have:i - es'.length=0:=by have:=E.len; omega
     rw [this] at hp
     simp at hp; subst hp
     exact ⟨hkvr.ext x,hvvr.ext x⟩
    ·have hi:=(Array.getElem?_eq_some_iff.1 hm).1
     rw [List.getElem?_append_left (by rw [E.len]; exact hi)] at hp
     have:=E.vr i p m hp hm
     exact ⟨this.1.ext x,this.2.ext x⟩
 ·have hpm:p∈es:=E.perm.mem_iff.1 (List.mem_of_getElem? f3)
  have hjl:j<ents.size:=(Array.getElem?_eq_some_iff.1 f2).1
  refine done (ents.modify j fun e'=>{ e' with key:=a.eval y,val:=a.eval z }) clock ?_ ?_
  ·rw [hq]
   simp [Instr.mapUpdate,run_underlying hu,MapKept.run_getObj_map h4,Q.check K.w false hkl,f1,f2,f5,Q.stays K.w hkl,MapKept.run_setObj_map _ h4]
  ·intro K' x
   have hlist:(ents.modify j fun e'=>{ e' with key:=a.eval y,val:=a.eval z }).toList=ents.toList.set j { m with key:=a.eval y,val:=a.eval z }:=by
    rw [Array.toList_modify,ChangeMaps.modify_eq_set _ _ _ m (by simpa using f2)]
   have hborn:(ents.toList.set j { m with key:=a.eval y,val:=a.eval z }).map (·.born)=ents.toList.map (·.born):=by
    refine List.ext_getElem (by simp) (fun i hi hi'=>?_)
    simp only [List.getElem_map,List.getElem_set]
    split
    ·rename_i hij
     subst hij
     have:=(Array.getElem?_eq_some_iff.1 f2).2
     simp [this]
    ·rfl
   refine ⟨⟨?_, ?_⟩,es'.map (fun p=>if zbZ p.1 kg then (kg,vg) else p), ?_,by simp [E.len], ?_⟩
   ·intro m' hm'
    rw [hlist] at hm'
    have:m'.born∈ents.toList.map (·.born):=by rw [← hborn]; exact List.mem_map_of_mem hm'
    obtain ⟨c,hc,hcb⟩:=List.mem_map.1 this
    rw [← hcb]; exact hbn c hc
   ·rw [hlist]
    have h5:(ents.toList.map (·.born)).Pairwise (·≠·):=List.pairwise_map.2 hbd
    rw [← hborn] at h5
    exact List.pairwise_map.1 h5
   ·rw [zgz hkes hkg hpm f4]
    exact E.perm.map _
   ·intro i q m' hq' hm'
    rw [List.getElem?_map,Option.map_eq_some_iff] at hq'
    obtain ⟨q0,hq0,rfl⟩:=hq'
    have hm2:(ents.toList.set j { m with key:=a.eval y,val:=a.eval z })[i]?=some m':=by rw [← hlist,Array.getElem?_toList]; exact hm'
    by_cases hij:i=j
    ·subst hij
     rw [f3] at hq0
     injection hq0 with hq0; subst hq0
     rw [(zaL (hkes p hpm) hkg).2 f4]
     simp [hjl] at hm2
     subst hm2
     exact ⟨hkvr.ext x,hvvr.ext x⟩
    ·have hne:¬ zbZ q0.1 kg=true:=fun h=>E.ne hq0 f3 hij (((zaL (E.key q0 (List.mem_of_getElem? hq0)) hkg).1 h).trans f4.symm)
     rw [if_neg hne]
     rw [List.getElem?_set_ne (Ne.symm hij)] at hm2
     have:=E.vr i q0 m' hq0 (by simpa using hm2)
     exact ⟨this.1.ext x,this.2.ext x⟩
theorem zsQ (hl:laidOutB P=true) (hr:HR ro K H) (fr:FR K lam nt e a) (hB:e.gen≤B) {t k el t':TypeId} {x y:Operand} {ag:Bool} {ls:List Leaf} {l:List Src} {mg kg:GV} {H':GH} {n':Nat}
 (ho:o.op=.call { callee:=.builtin .delete,args := #[x,y],argTypes := #[t,t'] }) (hu:P.underlying t=some (.map k el)) (hk:zaY P k=some (ag,ls)) (hs:zbn ro [x,y]=some l) (hl2:l.map (zac e)=[mg,kg]) (hg:zka H ag ls mg kg=some H') :
 StepOk P ro K lam nt e a o H ⟨.tup [],none,H',n'⟩ B gk:=by
 obtain ⟨s,u,h1,h2,rfl⟩:=zbj hs
 obtain ⟨q1,p1⟩:=zaa hr fr h1
 obtain ⟨q2,p2⟩:=zaa hr fr h2
 simp only [List.map_cons,List.map_nil,List.cons.injEq,and_true] at hl2
 rw [hl2.1] at q1
 rw [hl2.2] at q2
 have Q:=zfT hl hk
 have hkg:zaA ag ls kg=true:=by
  unfold zka at hg
  split at hg
  ·split at hg
   ·assumption
   ·cases hg
  ·split at hg
   ·split at hg
    ·rename_i hc; exact hc.2.2.1
    ·cases hg
   ·cases hg
  ·cases hg
 have hkvr:VR K kg (a.eval y):=q2.vr (by cases kg <;> first | rfl | simp [zaA,zat] at hkg | (cases ls <;> simp [zaA,zat] at hkg))
 obtain ⟨kl,hkl⟩:=zdJ hk hkvr hkg
 have hnil:VR K (.tup []) (.tuple #[]):=.tup rfl (fun i c v hc=>by simp at hc)
 cases mg <;> simp only [zka] at hg <;> try (cases hg; done)
 case nilmap =>
  rw [if_pos hkg] at hg
  injection hg with hg; subst hg
  cases hq:a.eval x <;> rw [hq] at q1 <;> try (cases q1; done)
  cases q1
  refine zaQ hr fr hB ⟨.tuple #[],zav ho ?_,SR.of hnil,zai rfl⟩
  simp [builtin,Builtin.delete_,run_underlying hu,hq,Q.check K.w _ hkl]
 case map id =>
 split at hg
 case h_2=>cases hg
 rename_i ag' ls' es hd
 split at hg
 case isFalse=>cases hg
 rename_i hc
 obtain ⟨rfl,rfl,_,hbo⟩:=hc
 injection hg with hg; subst hg
 obtain ⟨hw,b,ents,clock,h3,h4,hm⟩:=hr.obj id _ hd
 cases hq:a.eval x <;> rw [hq] at q1 <;> try (cases q1; done)
 have q1':VR K (.map id) _:=q1
 cases q1' with
 | @map _ b' hid hpp =>
 obtain rfl:=hpp b h3
 obtain ⟨es',E⟩:=zgy hw hm
 obtain ⟨⟨hbn,hbd⟩,_⟩:=hm
 have hkes:∀ p∈es,zaA ag' ls' p.1=true:=hw.1
 have done:∀ ents',(Builtin.delete_ #[t,t'] o.type #[a.eval x,a.eval y]).run P K.w=.ok (.tuple #[]) { K.w with heap:=K.w.heap.setIfInBounds b (.map ents' clock) } →
  (∀ K':Ctx,Ext (fun _=>False) H.bo H.bt K K'→zAJ K' (zfH es kg) ents' clock)→StepOk P ro K lam nt e a o H ⟨.tup [],none,{ H with objs:=H.objs.set id (.map ag' ls' (zfH es kg)) },n'⟩ B gk:=by
  intro ents' hrun hmr
  have hws:=zke (.map ents' clock) h4
  have x0:Ext (fun _=>False) H.bo H.bt K (K.at _):=(hr.obj_set h3 hbo hws (o:=.dead) trivial).2
  obtain ⟨hr',x1⟩:=hr.obj_set h3 hbo hws (o:=.map ag' ls' (zfH es kg)) ⟨zsP hw kg,b,ents',clock,h3,zhZ _ h4,hmr _ x0⟩
  refine StepOk.plain (K':=K.at _) (rv:=.tuple #[]) fr hr hB (zav ho ?_) hr' x1 (SR.of (hnil.ext x1)) (zai rfl) rfl
  simp only [builtin,List.map_toArray,List.map_cons,List.map_nil,Sem.run_bind,hrun,Result.andThen_ok,Sem.run_pure]
  rfl
 rcases zfU hl hk E hkvr hkg K.w with ⟨f1,f2,hne⟩ | ⟨j,m,p,f1,f2,f3,f4,f5,f6⟩
 ·refine done ents ?_ ?_
  ·rw [hq]
   simp [Builtin.delete_,run_underlying hu,MapKept.run_getObj_map h4,Q.check K.w _ hkl,f1,MapKept.run_setObj_map _ h4]
  ·intro K' x
   refine ⟨⟨hbn,hbd⟩,es', ?_,E.len,fun i p m hp hm=>⟨(E.vr i p m hp hm).1.ext x,(E.vr i p m hp hm).2.ext x⟩⟩
   have:zfH es kg=es:=by
    unfold zfH
    refine List.filter_eq_self.2 (fun p hp=>?_)
    have hne':=hne p (E.perm.mem_iff.2 hp)
    cases hb:zbZ p.1 kg with
    | false=>rfl
    | true=>exact absurd ((zaL (hkes p hp) hkg).1 hb) hne'
   rw [this]; exact E.perm
 ·have hjl:j<ents.size:=(Array.getElem?_eq_some_iff.1 f2).1
  refine done (ents.eraseIdxIfInBounds j) ?_ ?_
  ·rw [hq]
   simp [Builtin.delete_,run_underlying hu,MapKept.run_getObj_map h4,Q.check K.w _ hkl,f1,MapKept.run_setObj_map _ h4]
  ·intro K' x
   have hlist:(ents.eraseIdxIfInBounds j).toList=ents.toList.eraseIdx j:=by
    simp [Array.eraseIdxIfInBounds,hjl]
   have hfe:es'.eraseIdx j=es'.filter (fun p=>!zbZ p.1 kg):=by
    refine (ChangeMaps.filter_eq_eraseIdx (fun p:GV × GV=>zbZ p.1 kg) es' j p f3 ((zaL (E.key p (List.mem_of_getElem? f3)) hkg).2 f4) ?_).symm
    refine List.Pairwise.imp_of_mem (fun {a b} ha hb h h'=>?_) E.one
    exact h (((zaL (E.key a ha) hkg).1 h'.1).trans ((zaL (E.key b hb) hkg).1 h'.2).symm)
   have hsize:(ents.eraseIdxIfInBounds j).size=ents.size - 1:=by
    simp [Array.eraseIdxIfInBounds,hjl]
   refine ⟨⟨?_, ?_⟩,es'.eraseIdx j, ?_, ?_, ?_⟩
   ·intro m' hm'
    rw [hlist] at hm'
    exact hbn m' (List.mem_of_mem_eraseIdx hm')
   ·rw [hlist]; exact hbd.sublist (List.eraseIdx_sublist _ _)
   ·rw [hfe]; exact E.perm.filter _
   ·rw [List.length_eraseIdx,hsize,if_pos (by rw [E.len]; exact hjl),E.len]
   ·intro i q m' hq' hm'
    have hm2:(ents.toList.eraseIdx j)[i]?=some m':=by rw [← hlist,Array.getElem?_toList]; exact hm'
    rw [List.getElem?_eraseIdx] at hq' hm2
    split at hq'
    ·rename_i hi
     rw [if_pos hi] at hm2
     have:=E.vr i q m' hq' (by simpa using hm2)
     exact ⟨this.1.ext x,this.2.ext x⟩
    ·rename_i hi
     rw [if_neg hi] at hm2
     have:=E.vr (i+1) q m' hq' (by simpa using hm2)
     exact ⟨this.1.ext x,this.2.ext x⟩
end
section
variable {P:Program} {ro:Nat} {hp:List Nat} {K:Ctx} {H:GH} {lam:Nat→Option Nat} {nt:Nat} {e:Env} {a:Act} {o:Oper} {B gk:Nat}
theorem zb8 (sz:Nat):∀ (n:Nat) (cs:List GV),(za4 sz n cs).length=n
 | 0,_=>rfl
 | n+1,cs=>by simp [za4,zb8 sz n]
theorem zpF {sz:Nat} {cs:List GV} (h:cs.length=sz) (ho:∀ c∈cs,c.one=true):(zBT sz cs).cells=cs∧(zBT sz cs).flat=true:=by
 unfold zBT
 split
 ·rename_i h1
  match cs,h.trans h1 with
  | [c],_ =>
   have hc:=ho c (by simp)
   have:c.cells=[c]:=by cases c <;> first | rfl | simp [GV.one] at hc
   exact ⟨this,by simp only [GV.flat,List.headD_cons,this]; simp [hc]⟩
 ·exact ⟨rfl,by simp only [GV.flat,GV.cells,List.all_eq_true]; exact ho⟩
theorem zeD {sz:Nat} (hp:0<sz):∀ (n:Nat) (cs:List GV),n * sz≤cs.length→(∀ c∈cs.take (n * sz),c.one=true)→∀ (i:Nat) x,(za4 sz n cs)[i]?=some x→x.cells.length=sz∧x.flat=true∧∀ (j:Nat) c,x.cells[j]?=some c→j<sz∧cs[i * sz+j]?=some c
 | 0,cs,_,_,i,x,h=>by simp [za4] at h
 | n+1,cs,hl,ho,i,x,h=>by
  rw [Nat.succ_mul] at hl ho
  have hlt:(cs.take sz).length=sz:=by rw [List.length_take]; omega
  have h1:∀ c∈cs.take sz,c.one=true:=fun c hc=>ho c (by
   have:cs.take sz=(cs.take (n * sz+sz)).take sz:=by rw [List.take_take]; congr 1; omega
   rw [this] at hc; exact List.mem_of_mem_take hc)
  cases i with
  | zero =>
   simp only [za4,List.getElem?_cons_zero,Option.some.injEq] at h
   subst h
   obtain ⟨h2,h3⟩:=zpF hlt h1
   refine ⟨by rw [h2]; exact hlt,h3,fun j c hj=>?_⟩
   rw [h2] at hj
   have hjl:=(List.getElem?_eq_some_iff.1 hj).1
   rw [hlt] at hjl
   rw [List.getElem?_take,if_pos hjl] at hj
   exact ⟨hjl,by rw [Nat.zero_mul,Nat.zero_add]; exact hj⟩
  | succ i =>
   simp only [za4,List.getElem?_cons_succ] at h
   obtain ⟨h2,h3,h4⟩:=zeD hp n (cs.drop sz) (by rw [List.length_drop]; omega) (fun c hc=>ho c (by
    obtain ⟨k,hk,rfl⟩:=List.mem_iff_getElem.1 hc
    simp only [List.getElem_take,List.getElem_drop]
    rw [List.length_take,List.length_drop] at hk
    refine List.mem_iff_getElem.2 ⟨sz+k,by rw [List.length_take]; omega,by simp⟩)) i x h
   refine ⟨h2,h3,fun j c hj=>?_⟩
   obtain ⟨h5,h6⟩:=h4 j c hj
   refine ⟨h5, ?_⟩
   rw [List.getElem?_drop] at h6
   rw [Nat.succ_mul,show i * sz+sz+j=sz+(i * sz+j) by omega]
   exact h6
theorem zsR (hr:HR ro K H) (fr:FR K lam nt e a) (hB:e.gen≤B) {t:TypeId} {x:Operand} {s:Src} {g:Nat} (ho:o.op=.box t x) (hs:zbM ro x=some s) (hok:(zac e s).ok=true) :
 StepOk P ro K lam nt e a o H ⟨.el (zac e s).cells 0,none,H,g⟩ B gk:=by
 obtain ⟨q1,p1⟩:=zaa hr fr hs
 have hv:=q1.vr hok
 obtain ⟨c1,c2⟩:=hv.cells
 have f:=zmP (K:=K) hr K.w.drawn (.cells (a.eval x).cells t)
 have hr':=hr.fresh f rfl rfl rfl rfl
 have xx:=f.ext hr (fun t _ _=>⟨rfl,rfl⟩) (fun _=>False)
 have hnew:({ K.w with heap:=K.w.heap.push (.cells (a.eval x).cells t),drawn:=K.w.drawn } : World).heap[K.w.heap.size]?=some (.cells (a.eval x).cells t):=zcw _ _ _
 refine StepOk.plain (K':={ K with w:={ K.w with heap:=K.w.heap.push (.cells (a.eval x).cells t),drawn:=K.w.drawn } }) (rv:=.pointer (some ⟨K.w.heap.size,0,none⟩)) fr hr hB ?_ hr' xx ?_ (zai rfl) rfl
 ·simp only [execOp,ho,Instr.box,Sem.run_bind,zdl,Result.andThen_ok,Sem.run_pure]
 ·refine SR.of (.el (base:=0) (cv:=fun j=>(a.eval x).cells.getD j undef) rfl (fun j c hc=>⟨⟨by simp,fun h=>?_,fun id h=>?_,fun t ti h hb=>?_⟩, ?_⟩) (fun j c hc=>?_))
  ·have:=(hr.loc _ h).2; omega
  ·have:=(hr.dom id _ h).2.1; omega
  ·have:=(hr.tok t ti h).2.1; omega
  ·have hj:j<(a.eval x).cells.size:=by rw [← c1]; exact (List.getElem?_eq_some_iff.1 hc).1
   simp [World.cell?,hnew,hj]
  ·have hj:j<(a.eval x).cells.size:=by rw [← c1]; exact (List.getElem?_eq_some_iff.1 hc).1
   have:=c2 j c (a.eval x).cells[j] hc (Array.getElem?_eq_getElem hj)
   rw [show (a.eval x).cells.getD j undef=(a.eval x).cells[j] by simp [hj]]
   exact this.ext xx
theorem zvV (hr:HR ro K H) (fr:FR K lam nt e a) {t el:TypeId} {n sz:Nat} {x:Operand} {s:Src} {g:GV} (ho:o.op=.slice t x none none none) (ht:P.underlying t=some (.array n el)) (hn:zaS P el=some sz)
 (hs:zbM ro x=some s) (hg:zaF (.slarr n sz) [zac e s]=some g):za7 P K lam a o g:=by
 obtain ⟨q1,p1⟩:=zaa hr fr hs
 generalize zac e s=x1 at *
 cases x1 <;> simp only [zaF] at hg <;> try (cases hg; done)
 rename_i cs off
 split at hg
 case isFalse=>cases hg
 rename_i hc
 obtain ⟨hz,hle,hone,hmax⟩:=hc
 injection hg with hg; subst hg
 cases hq:a.eval x <;> rw [hq] at q1 <;> try (cases q1; done)
 have q1':VR K (.el cs off) _:=q1
 cases q1' with
 | @el _ _ b base o' cv hoo hI hv =>
 have hone':∀ c∈(cs.drop off).take (n * sz),c.one=true:=fun c hc=>List.all_eq_true.1 hone c hc
 have hget:=zeD hz n (cs.drop off) (by rw [List.length_drop]; omega) hone'
 have hidx:∀ i x j c,(za4 sz n (cs.drop off))[i]?=some x→x.cells[j]?=some c→cs[off+(i * sz+j)]?=some c:=fun i x j c hx hc=>by
  have:=((hget i x hx).2.2 j c hc).2
  rwa [List.getElem?_drop] at this
 refine ⟨.slice (some ⟨b,o',none⟩) n n, ?_,SR.of ?_,fun n hn=>hn⟩
 ·simp [execOp,ho,hq,Instr.sliceAt,run_underlying ht,Instr.sliceBounds,zax hn,Instr.sureAddr,Addr.add_lit]
 ·have:=VR.sl (K:=K) (sz:=sz) (xs:=za4 sz n (cs.drop off)) (tag:=.exact) (b:=b) (off:=o') (cap:=n) (cv:=fun i j=>cv (off+(i * sz+j))) (by rw [zb8]; exact Nat.le_refl _) hmax (fun x hx=>?_) (fun i x j c hx hc=>?_) (fun i x j c hx hc=>hv _ c (hidx i x j c hx hc)) (by rw [zb8]; rfl)
  ·rwa [zb8] at this
  ·obtain ⟨i,hi,rfl⟩:=List.mem_iff_getElem.1 hx
   obtain ⟨h1,h2,_⟩:=hget i _ (List.getElem?_eq_getElem hi)
   exact ⟨h1,h2⟩
  ·obtain ⟨h1,h2⟩:=hI _ c (hidx i x j c hx hc)
   rw [show base+(off+(i * sz+j))=o'+i * sz+j by omega] at h1 h2
   exact ⟨h1,h2⟩
theorem zdK (hr:HR ro K H) {id off len sz:Nat} {ag:Bool} {q:Value} {v:GV} {H':GH} (q1:SR K lam (.hsl id off len sz ag) q) (hg:zaR H [.hsl id off len sz ag]=some (v,H')) :
 HR ro (zaJ K id) H'∧Ext (fun _=>False) H.bo H.bt K (zaJ K id)∧SR (zaJ K id) lam v q∧v.ok=true∧H'.bo=H.bo∧H'.bt=H.bt:=by
 simp only [zaR] at hg
 split at hg
 case h_2=>cases hg
 rename_i ty cs hd
 split at hg
 case isFalse=>cases hg
 rename_i hc
 obtain ⟨hbo,hz,hle,hone⟩:=hc
 injection hg with hg; injection hg with h1 h2; subst h1 h2
 obtain ⟨hidn,hro,b,vs,h3,h4,hκ,h6,h6'⟩:=hr.obj id _ hd
 cases hq:q <;> rw [hq] at q1 <;> try (cases q1; done)
 have q1':VR K (.hsl id off len sz ag) _:=q1
 cases q1' with
 | @hsl _ _ _ _ _ b' oo _ hid hh hcap hmax =>
 rename_i cap
 obtain ⟨rfl,rfl,hcapκ⟩:=hh b h3
 obtain ⟨hr',x1⟩:=hr.kill hbo
 have hone':∀ c∈(cs.drop oo).take (len * sz),c.one=true:=fun c hc=>List.all_eq_true.1 hone c hc
 have hget:=zeD hz len (cs.drop oo) (by rw [List.length_drop]; omega) hone'
 have hidx:∀ i x j c,(za4 sz len (cs.drop oo))[i]?=some x→x.cells[j]?=some c→cs[oo+(i * sz+j)]?=some c:=fun i x j c hx hc=>by
  have:=((hget i x hx).2.2 j c hc).2
  rwa [List.getElem?_drop] at this
 obtain ⟨d1,d2,d3,d4⟩:=hr.dom id b h3
 have himm:∀ oo',Imm (zaJ K id) b oo':=fun oo'=>⟨d2,d3,fun i hi=>by
  simp only [zaJ] at hi
  split at hi
  ·cases hi
  ·rename_i hne; exact hne (hr.inj i id b hi h3),fun t ti ht hb=>absurd (hb ▸ h3) ((hr.tok t ti ht).2.2.2.2.1 id)⟩
 refine ⟨hr',x1,SR.of ?_,rfl,rfl,rfl⟩
 have:=VR.sl (K:=zaJ K id) (sz:=sz) (xs:=za4 sz len (cs.drop oo)) (tag:=.imm) (b:=b) (off:=oo) (cap:=cap) (cv:=fun i j=>vs.getD (oo+(i * sz+j)) undef) (by rw [zb8]; exact hcap) hmax (fun x hx=>?_) (fun i x j c hx hc=>?_) (fun i x j c hx hc=>?_) trivial
 ·rwa [zb8] at this
 ·obtain ⟨i,hi,rfl⟩:=List.mem_iff_getElem.1 hx
  obtain ⟨h1,h2,_⟩:=hget i _ (List.getElem?_eq_getElem hi)
  exact ⟨h1,h2⟩
 ·have hcs:=hidx i x j c hx hc
  have hj:oo+(i * sz+j)<vs.size:=Nat.lt_of_lt_of_le (List.getElem?_eq_some_iff.1 hcs).1 h6
  refine ⟨himm _, ?_⟩
  rw [show oo+i * sz+j=oo+(i * sz+j) by omega]
  simp [World.cell?,zaJ,h4,hj]
 ·have hcs:=hidx i x j c hx hc
  have hj:oo+(i * sz+j)<vs.size:=Nat.lt_of_lt_of_le (List.getElem?_eq_some_iff.1 hcs).1 h6
  rw [show vs.getD (oo+(i * sz+j)) undef=vs[oo+(i * sz+j)] by simp [hj]]
  exact (h6' _ c _ hcs (Array.getElem?_eq_getElem hj)).ext x1
theorem zh0 (hr:HR ro K H) (fr:FR K lam nt e a) (hB:e.gen≤B) {x:Operand} {s:Src} {v:GV} {H':GH} {g:Nat} (ho:o.op=.move x∨o.op=.assign x) (hs:zbM ro x=some s) (hg:zaR H [zac e s]=some (v,H')) :
 StepOk P ro K lam nt e a o H ⟨v,none,H',g⟩ B gk:=by
 obtain ⟨q1,p1⟩:=zaa hr fr hs
 have hrun:(execOp a.eval o).run P K.w=.ok (.value (a.eval x)) K.w:=by rcases ho with ho | ho <;> simp [execOp,ho]
 generalize zac e s=x1 at *
 cases x1 <;> try (simp only [zaR] at hg; cases hg; done)
 case nilsl=>simp only [zaR] at hg; injection hg with hg; injection hg with h1 h2; subst h1 h2; exact zaQ hr fr hB ⟨_,hrun,q1,p1⟩
 case sl=>simp only [zaR] at hg; injection hg with hg; injection hg with h1 h2; subst h1 h2; exact zaQ hr fr hB ⟨_,hrun,q1,p1⟩
 case hsl id off len sz ag =>
  obtain ⟨hr',x1,hv,hok,_,_⟩:=zdK hr q1 hg
  exact StepOk.plain (K':=zaJ K id) (rv:=a.eval x) fr hr hB hrun hr' x1 hv (zai hok) rfl
theorem HR.cell_set (hr:HR ro K H) {p oo t:Nat} {cs:List GV} {v:GV} (hp:H.objs[p]?=some (.cells t cs)) (hv:∀ b vs elem fz q,K.φ p=some b→K.w.heap[b]?=some (.cells vs elem fz)→vs[oo]?=some q→VR K v q) :
 HR ro K { H with objs:=H.objs.set p (.cells t (cs.set oo v)) } :=
 { hr with
   nO:=by simp [hr.nO]
   obj:=fun id ob h=>by
    by_cases e:p=id
    ·subst e
     have hlt:=(List.getElem?_eq_some_iff.1 hp).1
     simp only [List.getElem?_set_self hlt,Option.some.injEq] at h
     subst h
     obtain ⟨b,vs,elem,fz,h1,h2,h3,h4,h5⟩:=hr.obj p _ hp
     refine ⟨b,vs,elem,fz,h1,h2,h3,by rw [List.length_set]; exact h4,fun i c q hc hq=>?_⟩
     rw [List.getElem?_set] at hc
     split at hc
     ·rename_i e; subst e
      split at hc
      ·injection hc with hc; subst hc
       exact hv b vs elem fz q h1 h2 hq
      ·cases hc
     ·exact h5 i c q hc hq
    ·simp only [List.getElem?_set_ne e] at h
     exact hr.obj id ob h }
theorem zpG (hr:HR ro K H) (fr:FR K lam nt e a) (hB:e.gen≤B) {t:TypeId} {x:Operand} {s:Src} {v:GV} {H':GH} {g:Nat} (ho:o.op=.load t x) (hs:zbM ro x=some s) (hsz:zaS P t=some 1) (ha:zg9 P t=some false) (hg:zfI H (zac e s)=some (v,H')) :
 StepOk P ro K lam nt e a o H ⟨v,none,H',g⟩ B gk:=by
 have pl:=fun w (h:zdD e H 1 false (zac e s)=some w)=>zsM hr fr ho hs hsz ha h
 generalize zac e s=x1 at *
 unfold zfI at hg
 split at hg
 case h_2=>cases hg
 rename_i p oo
 split at hg
 case h_2=>cases hg
 rename_i ty cs hp
 have ld:zdD e H 1 false (.ptr p oo)=cs[oo]?:=by simp [zdD,hp,zbP]
 split at hg
 ·rename_i id off len sz ag hc
  obtain ⟨q,hrun,hq,_⟩:=pl _ (ld.trans hc)
  simp only [Option.map_eq_some_iff] at hg
  obtain ⟨⟨v1,H1⟩,hf,hg⟩:=hg
  injection hg with hg1 hg2
  simp only at hg1 hg2
  subst hg1
  obtain ⟨hr',x1,hv,hok,e1,e2⟩:=zdK hr hq hf
  have hH1:H1={ H with objs:=H.objs.set id .dead }∧∃ ty' cs',H.objs[id]?=some (.row ty' cs'):=by
   simp only [zaR] at hf
   split at hf
   case h_2=>cases hf
   rename_i ty' cs' hd
   split at hf
   case isFalse=>cases hf
   injection hf with hf; injection hf with _ hf
   exact ⟨hf.symm,ty',cs',hd⟩
  obtain ⟨hH1,ty',cs',hd⟩:=hH1
  have hne:id≠p:=fun h=>by rw [h,hp] at hd; cases hd
  have hp1:H1.objs[p]?=some (.cells ty cs):=by rw [hH1]; simp only [List.getElem?_set_ne hne]; exact hp
  have hfin:=hr'.cell_set (oo:=oo) (v:=v1) hp1 (fun b vs elem fz q' hb hh hq'=>by
   have hb':K.φ p=some b:=by
    simp only [zaJ] at hb
    split at hb
    ·cases hb
    ·exact hb
   obtain ⟨b2,vs2,elem2,fz2,k1,k2,k3,k4,k5⟩:=hr.obj p _ hp
   rw [hb'] at k1; injection k1 with k1; subst k1
   have hh':K.w.heap[b]?=some (.cells vs elem fz):=hh
   rw [hh'] at k2; injection k2 with k2; injection k2 with k2; subst k2
   obtain ⟨_,_,hv2,_⟩:=zdK (lam:=lam) hr (SR.of (k5 oo _ q' hc hq')) hf
   exact hv2.vr hok)
  subst hg2
  exact StepOk.plain (K':=zaJ K id) (rv:=q) fr hr hB hrun hfin x1 hv (zai hok) rfl
 ·rename_i hc
  injection hg with hg; injection hg with h1 h2; subst h1 h2
  exact zaQ hr fr hB (pl _ (ld.trans hc))
 ·rename_i hc
  injection hg with hg; injection hg with h1 h2; subst h1 h2
  exact zaQ hr fr hB (pl _ (ld.trans hc))
 ·cases hg
theorem FR.ext0 {bo bt:Nat} {K':Ctx} (fr:FR K lam nt e a) (x:Ext (fun _=>False) bo bt K K'):FR K' lam nt e a :=
 ⟨fr.size,fr.defers,fun t=>(fr.slot t).ext x (fun _ _ h=>h) fun n b _ h=>(x.loc b (fr.lamρ n b h)).2 (fun h=>h.elim),fun n b h=>(x.loc b (fr.lamρ n b h)).1,fr.linj,fr.gen,fr.one⟩
theorem zsS (hl:laidOutB P=true) (hr:HR ro K H) (fr:FR K lam nt e a) (hB:e.gen≤B) {t k el:TypeId} {x y z:Operand} {ag:Bool} {ls:List Leaf} {l:List Src} {mg kg vg:GV} {H':GH} {n':Nat}
 (ho:o.op=.mapUpdate t x y z) (hu:P.underlying t=some (.map k el)) (hk:zaY P k=some (ag,ls)) (hs:zbn ro [x,y,z]=some l) (hl2:l.map (zac e)=[mg,kg,vg]) (hg:zdh H ag ls mg kg vg=some H') :
 StepOk P ro K lam nt e a o H ⟨.junk,none,H',n'⟩ B gk:=by
 obtain ⟨s,u,r,h1,h2,h2',rfl⟩:=zhQ hs
 obtain ⟨q1,p1⟩:=zaa hr fr h1
 obtain ⟨q2,p2⟩:=zaa hr fr h2
 obtain ⟨q3,p3⟩:=zaa hr fr h2'
 simp only [List.map_cons,List.map_nil,List.cons.injEq,and_true] at hl2
 rw [hl2.1] at q1
 rw [hl2.2.1] at q2
 rw [hl2.2.2] at q3
 unfold zdh at hg
 split at hg
 ·rename_i id off len sz ag'
  simp only [Option.bind_eq_some_iff] at hg
  obtain ⟨⟨v,H1⟩,hf,hg⟩:=hg
  obtain ⟨hr',x1,hv,_,e1,e2⟩:=zdK hr q3 hf
  have hs:∀ n b,lam n=some b→(zaJ K id).w.heap[b]?=K.w.heap[b]?:=fun n b h=>(x1.loc b (fr.lamρ n b h)).2 (fun h=>h.elim)
  obtain ⟨K',lam',rv,r1,r2,r3,r4,r5,r6,r7⟩:=zjt (n':=n') (gk:=gk) hl hr' (fr.ext0 x1) hB ho hu hk (q1.ext x1 (fun _ _ h=>h) fun n b _ h=>hs n b h) (q2.ext x1 (fun _ _ h=>h) fun n b _ h=>hs n b h) hv hg
  rw [e1,e2] at r3
  exact ⟨K',lam',rv,r1,r2,(x1.none (L:=Own lam)).trans r3 (fun b hb h=>h),r4,r5,r6,r7⟩
 ·exact zjt hl hr fr hB ho hu hk q1 q2 q3 hg
end
section
variable {P:Program} {ro:Nat} {hp:List Nat} {K:Ctx} {H:GH} {lam:Nat→Option Nat} {nt:Nat} {e:Env} {a:Act} {o:Oper} {B gk:Nat}
theorem zmX (hr:HR ro K H) (fr:FR K lam nt e a) (hB:e.gen≤B) {sx xx:Operand} {t u el:TypeId} {sz n':Nat} {i:TypeInfo} {zv:Value} (ho:o.op=.call { callee:=.builtin .append,args := #[sx,xx],argTypes := #[t,u] })
 (ht:P.underlying t=some (.slice el)) (hi:P.info? el=some i) (hisz:i.size=sz) (hiz:i.zero=some zv) (hzs:zv.cells.size=sz)
 {base:Option Addr} {news:List GV} {nv:List Value} (hq:a.eval sx=.slice base 0 0)
 (hold:(Builtin.firstCells i.size 0 (.slice base 0 0)).run P K.w.drew=.ok ([]:List Value).toArray K.w.drew)
 (hsrc:Go.Src P i.size u (a.eval xx) news.length nv K.w) (hnc:CR K (fl news) nv.toArray) (hns:∀ y,y∈news→y.cells.length=sz∧y.flat=true) (hne:0<news.length) (hmax:news.length≤maxLen) (hroom:news.length * i.bytes≤room) :
 StepOk P ro K lam nt e a o H ⟨.hsl H.objs.length 0 news.length sz false,none,H.newObj (.row el (fl news)),n'⟩ B gk:=by
 have hgt:0<0+news.length:=by omega
 have h63:((0+news.length:Nat):Int)≤9223372036854775807:=by simp only [maxLen] at hmax; omega
 have hfn:=za8 (fun y hy=>(hns y hy).1)
 have hnl:nv.length=news.length * sz:=by rw [← hisz]; exact hsrc.newsLen
 have hrun:=run_append_grow_src (P:=P) K.w t u o.type el i zv ht hi hiz base 0 0 [] hold (a.eval xx) news.length nv hsrc hgt h63 (growslice_fits hgt (by rw [Nat.zero_add]; exact hroom))
 generalize hcapn:grownCap K.w (0+news.length) 0 el=capn at hrun
 have hc1:news.length≤capn:=by rw [← hcapn]; have:=grownCap_ge K.w (0+news.length) 0 el; omega
 have hc2:capn≤maxLen:=by rw [← hcapn]; exact grownCap_le_maxLen _ _ _ _ (by rw [Nat.zero_add]; exact hmax)
 generalize hcur:(([]:List Value)++nv).toArray++Builtin.zeroCells zv.cells (capn - (0+news.length))=cur at hrun
 have hcs:cur.size=capn * sz:=by
  rw [← hcur]
  simp only [Array.size_append,List.size_toArray,List.length_append,List.length_nil,size_zeroCells,hzs,hnl,Nat.zero_add]
  rw [← Nat.add_mul]
  congr 1; omega
 have f:=zcC hr K.w.drew.drawn (.cells cur el)
 have xo:=f.ext hr (fun t _ _=>⟨rfl,rfl⟩) (fun _=>False)
 have hnew:=hr.newObj K.w.drew.drawn (.cells cur el) (.row el (fl news)) (by
  refine ⟨by simp [zaq],hr.roN,K.w.heap.size,cur,by simp [zaq],zcw K.w K.w.drew.drawn (.cells cur el),by simp [zaq,zdG], ?_,fun k c v hc hv=>?_⟩
  ·rw [hfn,hcs]; exact Nat.mul_le_mul_right _ hc1
  ·have hkl:k<nv.length:=by
    have:=(List.getElem?_eq_some_iff.1 hc).1
    rw [hfn,← hnl] at this
    exact this
   have hcur2:nv[k]?=cur[k]?:=by
    rw [← hcur,Array.getElem?_append_left (by simpa using hkl)]
    simp
   rw [hv] at hcur2
   exact (hnc.2 k c v hc (by simpa using hcur2)).ext xo)
 have hvr:VR (zaq K K.w.drew.drawn (.cells cur el)) (.hsl K.nO 0 news.length sz false) (.slice (some ⟨K.w.heap.size,0,none⟩) (0+news.length) capn):=by
  rw [Nat.zero_add]
  refine .hsl (by simp [zaq]) (fun c hc=>?_) hc1 hc2
  simp [zaq] at hc
  exact ⟨hc.symm,rfl,by simp [zaq,zdG,hcs]⟩
 rw [hr.nO]
 refine StepOk.plain (K':=zaq K K.w.drew.drawn (.cells cur el)) fr hr hB ?_ hnew xo (SR.of hvr) (fun n hn=>hn) rfl
 refine zav ho ?_
 simp only [builtin,List.map_toArray,List.map_cons,List.map_nil,hq,Sem.run_bind,hrun,Result.andThen_ok,Sem.run_pure]
 rfl
theorem zlr (hr:HR ro K H) (fr:FR K lam nt e a) (hB:e.gen≤B) {sx xx:Operand} {t u el:TypeId} {sz by_ n':Nat} {z v:GV} {s x:Src} {H':GH} (ho:o.op=.call { callee:=.builtin .append,args := #[sx,xx],argTypes := #[t,u] })
 (ht:P.underlying t=some (.slice el)) (hk:(∃ e',P.underlying u=some (.slice e'))∨P.underlying u=some .string) (hsz:zaS P el=some sz) (hby:zfM P el=some by_) (hz:zcz P el=some z) (hzl:z.cells.length=sz)
 (hs:zbM ro sx=some s) (hx:zbM ro xx=some x) (hg:za9 H el sz by_ (zac e s) (zac e x)=some (v,H')):StepOk P ro K lam nt e a o H ⟨v,none,H',n'⟩ B gk:=by
 have same:∀ w,zaU H el sz by_ (zac e s) (zac e x)=some w→w=(v,H')→StepOk P ro K lam nt e a o H ⟨v,none,H',n'⟩ B gk:=fun w h1 h2=>by
  subst h2; exact zff hr fr hB ho ht hk hsz hby hz hzl hs hx h1
 obtain ⟨q1,p1⟩:=zaa hr fr hs
 obtain ⟨q2,p2⟩:=zaa hr fr hx
 obtain ⟨i,hi,hisz⟩:∃ i,P.info? el=some i∧i.size=sz:=by simpa [zaS,Option.map_eq_some_iff] using hsz
 have hib:i.bytes=by_:=by simpa [zfM,hi] using hby
 obtain ⟨zv,hiz,hzv⟩:∃ zv,i.zero=some zv∧zeY 8 zv=some z:=by
  simp only [zcz,hi,Option.bind_some,Option.bind_eq_some_iff] at hz
  exact hz
 have hzs:zv.cells.size=sz:=by rw [← (zaP K _ _ _ hzv).cells.1]; exact hzl
 unfold za9 at hg
 simp only [Option.bind_eq_some_iff] at hg
 obtain ⟨news,hn,hg⟩:=hg
 have same':=same
 unfold zaU at same'
 rw [hn] at same'
 simp only [Option.bind_some] at same'
 obtain ⟨nv,hsrc,hnc,hns⟩:=zhV hk hn q2
 rw [← hisz] at hsrc
 split at hg
 ·rename_i hsv
  split at hg
  ·rename_i hem
   rw [hsv] at same'
   simp only [hem,if_true] at same'
   injection hg with hg
   exact same' _ rfl hg
  ·rename_i hem
   have hnl:0<news.length:=by
    cases news with
    | nil=>simp at hem
    | cons _ _=>simp
   rw [hsv,zeA] at q1
   split at hg
   ·rename_i hrm
    simp only [Option.some.injEq,Prod.mk.injEq] at hg
    obtain ⟨rfl,rfl⟩:=hg
    exact zmX (i:=i) hr fr hB ho ht hi hisz hiz hzs q1 (run_firstCells_none _ _ _ _ _) hsrc hnc hns hnl hrm.2 (by rw [hib]; exact hrm.1)
   ·cases hg
 ·rename_i sz' xs tag hsv
  split at hg
  ·cases hg
  rename_i hszz
  split at hg
  ·rename_i hem
   rw [hsv] at same'
   simp only [hszz,hem,if_true,if_false] at same'
   injection hg with hg
   rw [hsv] at hg
   exact same' _ rfl hg
  ·rename_i hem
   have hnl:0<news.length:=by
    cases news with
    | nil=>simp at hem
    | cons _ _=>simp
   split at hg
   ·rename_i htx
    obtain ⟨rfl,rfl⟩:=htx
    split at hg
    ·rename_i hrm
     simp only [Option.some.injEq,Prod.mk.injEq] at hg
     obtain ⟨rfl,rfl⟩:=hg
     rw [hsv] at q1
     cases hq:a.eval sx <;> rw [hq] at q1 <;> try (cases q1; done)
     have q1':VR K (.sl sz' [] .exact) _:=q1
     cases q1' with
     | emp ad _ =>
      exact zmX (i:=i) (base:=some ad) hr fr hB ho ht hi hisz hiz hzs hq (run_firstCells_some K.w.drew i.size 0 ad 0 0 [] (by simp) (fun j u hj=>by simp at hj)) hsrc hnc hns hnl hrm.2 (by rw [hib]; exact hrm.1)
     | @sl _ _ _ b off cap cv hcap hmax hcs hI hv htag =>
     rename_i cap
     have hc0:cap=0:=htag
     subst hc0
     refine zmX (i:=i) (base:=some ⟨b,off,none⟩) hr fr hB ho ht hi hisz hiz hzs hq ?_ hsrc hnc hns hnl hrm.2 (by rw [hib]; exact hrm.1)
     exact run_firstCells_some K.w.drew i.size 0 ⟨b,off,none⟩ 0 0 [] (by simp) (fun j u hj=>by simp at hj)
    ·cases hg
   ·cases hg
 ·rename_i id off len sz' ag hsv
  rw [← hsv] at hg
  exact same _ hg rfl
 ·cases hg
theorem zmY {sz n:Nat} {z:GV} {zv:Value} (hz:VR K z zv) (hl:z.cells.length=sz) (hs:zv.cells.size=sz):∀ (k:Nat) c v,((List.replicate n z).flatMap GV.cells)[k]?=some c→(Builtin.zeroCells zv.cells n)[k]?=some v→VR K c v:=by
 intro k c v hc hv
 have hlen:((List.replicate n z).flatMap GV.cells).length=n * sz:=by
  have:=za8 (xs:=List.replicate n z) (sz:=sz) (fun x hx=>by rw [List.eq_of_mem_replicate hx]; exact hl)
  simpa [fl] using this
 have hk:=(List.getElem?_eq_some_iff.1 hc).1
 rw [hlen] at hk
 have hsz:0<sz:=by
  rcases Nat.eq_zero_or_pos sz with h | h
  ·rw [h] at hk; simp at hk
  ·exact h
 have hdm:k=(k / sz) * sz+k % sz:=by rw [Nat.mul_comm]; exact (Nat.div_add_mod k sz).symm
 have hmod:k % sz<sz:=Nat.mod_lt _ hsz
 have hdiv:k / sz<n:=Nat.div_lt_of_lt_mul (by rw [Nat.mul_comm]; exact hk)
 have h1:=zjq (xs:=List.replicate n z) (sz:=sz) (fun x hx=>by rw [List.eq_of_mem_replicate hx]; exact hl) (k / sz) z (by simp [hdiv]) (k % sz) hmod
 rw [← hdm] at h1
 have h1':((List.replicate n z).flatMap GV.cells)[k]?=z.cells[k % sz]?:=h1
 rw [h1'] at hc
 have h2:(Builtin.zeroCells zv.cells n)[k]?=zv.cells[k % sz]?:=by
  unfold Builtin.zeroCells
  rw [Array.getElem?_map,hs,Array.getElem?_range,if_pos hk]
  simp only [Option.map_some]
  rw [getElem!_pos zv.cells (k % sz) (by rw [hs]; exact hmod),Array.getElem?_eq_getElem (by rw [hs]; exact hmod)]
 rw [h2] at hv
 exact hz.cells.2 _ c v hc hv
theorem zpH (hr:HR ro K H) (fr:FR K lam nt e a) (hB:e.gen≤B) {xx:Operand} {t el:TypeId} {sz n':Nat} {z v:GV} {s:Src} {H':GH} (ho:o.op=.call { callee:=.builtin .clear,args := #[xx],argTypes := #[t] })
 (ht:P.underlying t=some (.slice el)) (hsz:zaS P el=some sz) (hz:zcz P el=some z) (hzl:z.cells.length=sz)
 (hs:zbM ro xx=some s) (hg:ze0 H sz z [zac e s]=some (v,H')):StepOk P ro K lam nt e a o H ⟨v,none,H',n'⟩ B gk:=by
 obtain ⟨q1,p1⟩:=zaa hr fr hs
 obtain ⟨i,hi,hisz⟩:∃ i,P.info? el=some i∧i.size=sz:=by simpa [zaS,Option.map_eq_some_iff] using hsz
 obtain ⟨zv,hzv,hzr⟩:=zc2 hz
 have hzs:zv.cells.size=sz:=by rw [← (zaP K _ _ _ hzv).cells.1]; exact hzl
 generalize zac e s=x1 at *
 cases x1 <;> simp only [ze0] at hg <;> try (cases hg; done)
 case nilsl =>
  injection hg with hg; injection hg with h1 h2; subst h1 h2
  rw [zeA] at q1
  refine zaQ hr fr hB ⟨.tuple #[],zav ho ?_,SR.of (.tup rfl (fun i c v h=>by simp at h)),fun n hn=>hn⟩
  simp [builtin,q1,Builtin.clear_,run_underlying ht]
 case sl sz2 xs tag =>
  split at hg
  case isFalse=>cases hg
  rename_i hem
  have hxs:xs=[]:=by simpa using hem
  subst hxs
  injection hg with hg; injection hg with h1 h2; subst h1 h2
  cases hq:a.eval xx <;> rw [hq] at q1 <;> try (cases q1; done)
  have q1':VR K (.sl sz2 [] tag) _:=q1
  refine zaQ hr fr hB ⟨.tuple #[],zav ho ?_,SR.of (.tup rfl (fun i c v h=>by simp at h)),fun n hn=>hn⟩
  cases q1' <;> simp [builtin,hq,Builtin.clear_,run_underlying ht]
 case hsl id off len sz2 ag =>
  split at hg
  case h_2=>cases hg
  rename_i ty cs hd
  split at hg
  case isFalse=>cases hg
  rename_i hc
  obtain ⟨rfl,hbo,hlen,hle,_,hflat⟩:=hc
  injection hg with hg; injection hg with h1 h2; subst h1 h2
  obtain ⟨hidn,hro,b,vs,h3,h4,hκ,h6,h6'⟩:=hr.obj id _ hd
  cases hq:a.eval xx <;> rw [hq] at q1 <;> try (cases q1; done)
  have q1':VR K (.hsl id off len sz ag) _:=q1
  cases q1' with
  | @hsl _ _ _ _ _ b' oo _ hid hh hcap hmax =>
  rename_i cap
  obtain ⟨rfl,rfl,hcapκ⟩:=hh b h3
  have hzc:(Builtin.zeroCells zv.cells len).toList.length=len * sz:=by
   rw [Array.length_toList,size_zeroCells,hzs]
  have hvz:=fun K=>zaP K _ _ _ hzv
  have hzl2:((List.replicate len z).flatMap GV.cells).length=len * sz:=by
   have:=za8 (xs:=List.replicate len z) (sz:=sz) (fun x hx=>by rw [List.eq_of_mem_replicate hx]; exact hzl)
   simpa [fl] using this
  have hcz:CR K ((List.replicate len z).flatMap GV.cells) (Builtin.zeroCells zv.cells len) :=
   ⟨by rw [hzl2,← hzc,Array.length_toList],zmY (hvz K) hzl hzs⟩
  have hp:zae cs oo ((List.replicate len z).flatMap GV.cells)=some (cs.take oo++(List.replicate len z).flatMap GV.cells++cs.drop (oo+len * sz)):=by
   unfold zae
   rw [hzl2,if_pos hle]
  have hone:∀ u∈(Builtin.zeroCells zv.cells len).toList,u.oneCell'=true:=fun u hu=>by
   obtain ⟨k,hk,rfl⟩:=List.mem_iff_getElem.1 hu
   have hk':k<len * sz:=by rw [← hzc]; exact hk
   have hsz0:0<sz:=by
    rcases Nat.eq_zero_or_pos sz with h | h
    ·rw [h] at hk'; simp at hk'
    ·exact h
   have hmod:k % sz<zv.cells.size:=by rw [hzs]; exact Nat.mod_lt _ hsz0
   have e:(Builtin.zeroCells zv.cells len).toList[k]=zv.cells[k % sz]:=by
    simp only [Builtin.zeroCells,Array.getElem_toList,Array.getElem_map,Array.getElem_range,hzs]
    exact getElem!_pos zv.cells (k % sz) hmod
   rw [e]
   exact zhk (hvz K) hflat _ (by simp)
  have hc:=crp h6 h6'
  obtain ⟨h9,h10⟩:=zcf hp hc hcz
  have hes:(vs.extract 0 cs.length).size=cs.length:=by simp; omega
  rw [hes] at h9 h10
  have hfit:oo+(Builtin.zeroCells zv.cells len).toList.length≤vs.size:=by rw [hzc]; omega
  have hw:=zaV (us:=(Builtin.zeroCells zv.cells len).toList) h4 hfit
  obtain ⟨⟨cur',c1,c2,c3⟩,_⟩:=zaH b (Builtin.zeroCells zv.cells len).toList oo K.w vs ty (0,0) h4 hfit
  have hcr:=h10 (cur'.extract 0 cs.length) (by simp; omega) (fun i=>by
   rw [zb3,zb3]
   by_cases hi:i<cs.length
   ·rw [if_pos hi,if_pos hi,c3 i]; simp
   ·rw [if_neg hi,if_neg hi,if_neg (by omega)])
  have hst:=run_storeCells_cells (P:=P) b oo (Builtin.zeroCells zv.cells len).toList 0 K.w
   (fun j hj=>by
     have:oo+j<vs.size:=by omega
     simp [World.cell?,h4,this])
   (fun j hj=>by simp [World.frozen?,h4]) hone
  rw [Nat.add_zero] at hst
  have x0:Ext (fun _=>False) H.bo H.bt K (K.at (K.w.setCells b oo (Builtin.zeroCells zv.cells len).toList)):=(hr.obj_set h3 hbo hw (o:=.dead) trivial).2
  obtain ⟨e1,e2⟩:=crq (by rw [c2]; exact h6) (hcr.ext x0)
  obtain ⟨hr',x1⟩:=hr.obj_set h3 hbo hw (o:=.row ty (cs.take oo++(List.replicate len z).flatMap GV.cells++cs.drop (oo+len * sz))) ⟨hidn,hro,b,cur',h3,c1,c2.trans hκ,by rw [c2,e1]; exact h6,e2⟩
  refine StepOk.plain (K':=K.at (K.w.setCells b oo (Builtin.zeroCells zv.cells len).toList)) (rv:=.tuple #[]) fr hr hB (zav ho ?_) hr' x1 (SR.of (.tup rfl (fun i c v h=>by simp at h))) (zai rfl) rfl
  obtain ⟨m,rfl⟩:∃ m,len=m+1:=⟨len - 1,by omega⟩
  simp only [builtin,List.map_toArray,List.map_cons,List.map_nil,hq]
  simp [Builtin.clear_,run_underlying ht,hzr,hst]
  rfl
end
end Go.Sh
