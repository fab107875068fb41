/- Own work: the zaG machine and what it shows, part ShT. -/
import Derived.Test.YtchjbidfmhmmhaaGreatDoorShE
import Derived.ProofKit
set_option linter.all false
namespace Go.Sh
variable [Facts]
def zdQ (rows:List (Nat × List Nat × IFun)) (f:Nat):Option IFun:=(rows.find? (fun r=>r.1 == f)).map (·.2.2)
def zoo (rows:List (Nat × List Nat × IFun)):Bool :=
 rows.all fun r=>r.2.1.all fun x=>decide (x<2097152) || match zdQ rows (x - 2097152) with
  | some G=>G.mode == 1 || G.mode == 2 || decide (10≤G.mode∧G.mode<20)
  | none=>true
def RowOk (P:Program) (r:Nat × List Nat × IFun):Prop:=(10≤r.2.2.mode∧zcO P r.1 r.2.2)∨(r.2.2.mode<10∧zbi P r.2.1 r.2.2.mode r.1=some r.2.2)
theorem zgG {P:Program} {rows:List (Nat × List Nat × IFun)} (hm:zoo rows=true) (h:∀ r,r∈rows→RowOk P r):zcq P (zdQ rows):=by
 intro f F hF
 unfold zdQ at hF
 simp only [Option.map_eq_some_iff] at hF
 obtain ⟨r,h1,rfl⟩:=hF
 have hmem:=List.mem_of_find?_eq_some h1
 have hf:r.1=f:=by simpa using List.find?_some h1
 subst hf
 rcases h r hmem with h2 | ⟨h2,h3⟩
 ·exact .inl h2
 ·refine .inr ⟨h2,r.2.1,fun g hg G hG=>?_,h3⟩
  simp only [zoo,List.all_eq_true] at hm
  have:=hm r hmem (g+2097152) (by simpa using hg)
  simp only [Nat.add_sub_cancel,hG,Bool.or_eq_true,decide_eq_true_eq] at this
  rcases this with h | h
  ·omega
  ·rcases h with h | h
   ·rcases h with h | h
    ·exact .inl (by simpa using h)
    ·exact .inr (.inl (by simpa using h))
   ·exact .inr (.inr h)
inductive RowsOk (P:Program):List (Nat × List Nat × IFun)→Prop
 | nil:RowsOk P []
 | cons {f:Nat} {hp:List Nat} {F:IFun} {l:List (Nat × List Nat × IFun)} (h:zbi P hp F.mode f=some F) (h10:F.mode<10) (t:RowsOk P l):RowsOk P ((f,hp,F)::l)
 | lib {f:Nat} {F:IFun} {l:List (Nat × List Nat × IFun)} (h:zcO P f F) (h10:10≤F.mode) (t:RowsOk P l):RowsOk P ((f,[],F)::l)
theorem RowsOk.all {P:Program} {l:List (Nat × List Nat × IFun)} (h:RowsOk P l):∀ r,r∈l→RowOk P r:=by
 induction h with
 | nil=>intro r hr; cases hr
 | cons h h10 t ih =>
  intro r hr
  rcases List.mem_cons.1 hr with rfl | hr
  ·exact .inr ⟨h10,h⟩
  ·exact ih r hr
 | lib h h10 t ih =>
  intro r hr
  rcases List.mem_cons.1 hr with rfl | hr
  ·exact .inl ⟨h10,h⟩
  ·exact ih r hr
section
variable {P:Program} {T:Nat→Option IFun}
def zbF (ro:Nat) (W:World):Ctx:={ φ:=fun _=>none,κ:=fun _=>0,τ:=fun _=>none,ρ:=fun _=>False,w:=W,toks:=[],nO:=ro,N:=W.heap.size }
theorem zwQ (ro:Nat) (W:World) (hD:∀ w':World,(∀ b,b<W.heap.size→w'.heap[b]?=W.heap[b]?)→Facts.D w'):HR ro (zbF ro W) (zl3 ro) :=
 { nO:=by simp [zl3,zbF],toks:=rfl,bo:=Nat.le_refl _,bt:=Nat.le_refl _,
   obj:=by
    intro id o ho
    have:o=.dead:=by
     simp only [zl3,List.getElem?_replicate] at ho
     split at ho
     ·injection ho with ho; exact ho.symm
     ·cases ho
    subst this
    trivial
   inj:=fun _ _ _ h=>by cases h
   dom:=fun _ _ h=>by cases h
   glob:=fun _ _ _ h=>by cases h
   roN:=Nat.le_refl _
   tok:=fun _ _ h=>by cases h
   tinj:=fun _ _ _ _ h=>by cases h
   size:=Nat.le_refl _
   loc:=fun _ h=>h.elim
   dat:=hD }
theorem ztR {ro b o:Nat} {W:World} (h:b<W.heap.size):Imm (zbF ro W) b o :=
 ⟨h,fun h=>h,fun _ h=>(by cases h),fun _ _ h=>(by cases h)⟩
theorem ze2 (hm:P.follows .mixedOrders=true) (hl:laidOutB P=true) (hT:zcq P T) {f:FuncId} {F:IFun} (hF:T f=some F) (h10:F.mode<10) {gargs:List GV} {args:Array Value} {H H':GH} {v:GV} {K:Ctx} (h:ecall T f gargs H=some (v,H')) (hok:oks gargs=true) (hr:HR P.globals.size K H) (hc:CR K gargs args) :
 Calls P f args K.w fun e w'=>∃ rv K',e=.returned rv∧w'=K'.w∧HR P.globals.size K' H'∧VR K' v rv∧Ext (fun _=>False) H.bo H.bt K K':=by
 have hto:=(zm3 hm hl hT).2 f gargs H v H' h hok K args hr hc
 obtain ⟨_,hp,_,hcf⟩:=(hT f F hF).resolve_left (fun h=>by have:=h.1; omega)
 obtain ⟨fn,c,hf,hb,hname,_⟩:=zn9 hcf
 have:=hto { dst:=some 0,op:=.ready 0,type:=0,pos := "",after := #[],guard:=none } { tmps := #[undef],defers:=[] }
  (fun a w=>∃ rv K',a.tmps = #[rv]∧w=K'.w∧HR P.globals.size K' H'∧VR K' v rv∧Ext (fun _=>False) H.bo H.bt K K') (fun _ _ _=>False)
  (fun rv K' h1 h2 h3=>⟨rv,K',rfl,rfl,h1,h2,h3⟩)
 rw [zid hf hname hb,Oper.upon_enter] at this
 refine this.mono fun e w' he=>?_
 cases e with
 | returned rv =>
  obtain ⟨rv',K',h1,h2,h3,h4,h5⟩:=he
  have e1:(#[rv]:Array Value) = #[rv']:=h1
  injection e1 with e1
  injection e1 with e1
  subst e1
  exact ⟨rv,K',rfl,h2,h3,h4,h5⟩
 | panicked _=>exact he.elim
 | outgrown=>obtain ⟨_,_,he⟩:=he; exact he.elim
theorem znr {ro:Nat} {W:World} {K':Ctx} {bo bt:Nat} (x:Ext (fun _=>False) bo bt (zbF ro W) K'):RowKit.Below W.heap.size W K'.w :=
 ⟨x.os,x.tape,x.output,x.size,fun k hk=>x.below k hk⟩
end
end Go.Sh
