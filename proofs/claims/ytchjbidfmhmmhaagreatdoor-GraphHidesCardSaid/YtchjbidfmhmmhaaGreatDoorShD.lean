/- Own work: the zaG machine and what it shows, part ShD. -/
import Derived.Test.YtchjbidfmhmmhaaGreatDoorShC
import Derived.Orders
set_option linter.all false
namespace Go.Sh
variable [Facts]
section
variable {P:Program} {ro:Nat} {hp:List Nat} {K:Ctx} {H:GH} {lam:Nat→Option Nat} {nt:Nat} {e:Env} {a:Act} {o:Oper} {B gk:Nat}
def Prim.isCall:Prim→Bool
 | .call _ | .callv=>true
 | _=>false
theorem zfV {α:Type} {a:Array α} {l:List α} (h:a.toList=l):a=l.toArray:=by rw [← h]
theorem zgA {c:Call} {cl:Callee} {as:List Operand} {ts:List TypeId} (h1:c.callee=cl) (h2:c.args.toList=as) (h3:c.argTypes.toList=ts):c={ callee:=cl,args:=as.toArray,argTypes:=ts.toArray }:=by
 cases c with | mk x y z=>cases h1; cases zfV h2; cases zfV h3; rfl
theorem zmZ (hlaid:laidOutB P=true) {call:Nat→List GV→GH→Option (GV × GH)} (hr:HR ro K H) (fr:FR K lam nt e a) (hB:e.gen≤B) {g:Nat} {rowA:Bool} {c:Call} (ho:o.op=.call c) {p:Prim} {srcs:List Src} (hc:zlf P ro rowA c=some (p,srcs)) (hnc:p.isCall=false)
 {f:Eff} (hf:zao call p (srcs.map (zac e)) ⟨e.s,g⟩ H=some f):StepOk P ro K lam nt e a o H f B g:=by
 have fin:∀ {p:Prim} {srcs:List Src},(∀ args e H,zao call p args e H=(zaF p args).map fun v=>⟨v,none,H,e.gen⟩)→zao call p (srcs.map (zac e)) ⟨e.s,g⟩ H=some f →
  (∀ v,zaF p (srcs.map (zac e))=some v→za7 P K lam a o v)→StepOk P ro K lam nt e a o H f B g:=by
  intro p srcs h1 h2 h3
  rw [h1,Option.map_eq_some_iff] at h2
  obtain ⟨v,hv,rfl⟩:=h2
  exact zaQ hr fr hB (h3 v hv)
 unfold zlf at hc
 split at hc
 ·simp only [Option.map_eq_some_iff,Prod.mk.injEq] at hc
  obtain ⟨_,_,rfl,_⟩:=hc
  cases hnc
 ·simp only [Option.map_eq_some_iff,Prod.mk.injEq] at hc
  obtain ⟨_,_,rfl,_⟩:=hc
  cases hnc
 ·rename_i hcl
  split at hc
  ·rename_i x t hx ht
   have ho':=ho.trans (congrArg Op.call (zgA hcl hx ht))
   split at hc
   ·rename_i hu
    simp only [Option.map_eq_some_iff,Prod.mk.injEq] at hc
    obtain ⟨s,hs,rfl,rfl⟩:=hc
    exact fin (fun _ _ _=>rfl) hf fun v hv=>zsI hr fr ho' hu hs hv
   ·rename_i el hu
    simp only [Option.map_eq_some_iff,Prod.mk.injEq] at hc
    obtain ⟨s,hs,rfl,rfl⟩:=hc
    exact fin (fun _ _ _=>rfl) hf fun v hv=>zvT hr fr ho' hu hs hv
   ·rename_i mk me hu
    simp only [Option.map_eq_some_iff,Prod.mk.injEq] at hc
    obtain ⟨s,hs,rfl,rfl⟩:=hc
    simp only [zao,List.map_cons,List.map_nil,Option.map_eq_some_iff] at hf
    obtain ⟨n,hn,rfl⟩:=hf
    exact zsO hr fr hB ho' hu hs rfl hn
   ·rename_i n el hu
    simp only [Option.map_eq_some_iff,Prod.mk.injEq] at hc
    obtain ⟨s,hs,rfl,rfl⟩:=hc
    exact fin (fun _ _ _=>rfl) hf fun v hv=>zsJ (u:=t) hr fr ho' (.inl hu) hv
   ·rename_i u hu
    split at hc
    ·rename_i n el hu'
     simp only [Option.map_eq_some_iff,Prod.mk.injEq] at hc
     obtain ⟨s,hs,rfl,rfl⟩:=hc
     exact fin (fun _ _ _=>rfl) hf fun v hv=>zsJ hr fr ho' (.inr ⟨hu,hu'⟩) hv
    ·cases hc
   ·cases hc
  ·cases hc
 ·rename_i hcl
  split at hc
  ·rename_i sx xx t u hx ht
   have ho':=ho.trans (congrArg Op.call (zgA hcl hx ht))
   split at hc
   ·rename_i el e' hu hu'
    split at hc
    ·rename_i sz by_ z s x hsz hby hz hs hxs
     split at hc
     ·rename_i hzl
      simp only [Option.some.injEq,Prod.mk.injEq] at hc
      obtain ⟨hp,rfl⟩:=hc
      split at hp
      ·subst hp
       simp only [zao,List.map_cons,List.map_nil,Option.map_eq_some_iff] at hf
       obtain ⟨⟨v,H'⟩,hv,rfl⟩:=hf
       exact zlr hr fr hB ho' hu (.inl ⟨e',hu'⟩) hsz hby hz hzl hs hxs hv
      ·subst hp
       simp only [zao,List.map_cons,List.map_nil,Option.map_eq_some_iff] at hf
       obtain ⟨⟨v,H'⟩,hv,rfl⟩:=hf
       exact zff hr fr hB ho' hu (.inl ⟨e',hu'⟩) hsz hby hz hzl hs hxs hv
     ·cases hc
    ·cases hc
   ·rename_i el hu hu'
    split at hc
    ·rename_i sz by_ z s x hsz hby hz hs hxs
     split at hc
     ·rename_i hzl
      obtain ⟨hzl,h1,h2⟩:=hzl
      simp only [Option.some.injEq,Prod.mk.injEq] at hc
      obtain ⟨rfl,rfl⟩:=hc
      simp only [zao,List.map_cons,List.map_nil,Option.map_eq_some_iff] at hf
      obtain ⟨⟨v,H'⟩,hv,rfl⟩:=hf
      subst h1; subst h2
      exact zff hr fr hB ho' hu (.inr hu') hsz hby hz hzl hs hxs hv
     ·cases hc
    ·cases hc
   ·cases hc
  ·cases hc
 ·rename_i hcl
  split at hc
  ·rename_i x t hx ht
   have ho':=ho.trans (congrArg Op.call (zgA hcl hx ht))
   split at hc
   ·rename_i el hu
    split at hc
    ·rename_i sz z s hsz hz hs
     split at hc
     ·rename_i hzl
      simp only [Option.some.injEq,Prod.mk.injEq] at hc
      obtain ⟨rfl,rfl⟩:=hc
      simp only [zao,List.map_cons,List.map_nil,Option.map_eq_some_iff] at hf
      obtain ⟨⟨v,H'⟩,hv,rfl⟩:=hf
      exact zpH hr fr hB ho' hu hsz hz hzl hs hv
     ·cases hc
    ·cases hc
   ·cases hc
  ·cases hc
 ·rename_i hcl
  split at hc
  ·rename_i x y t u hx ht
   have ho':=ho.trans (congrArg Op.call (zgA hcl hx ht))
   split at hc
   ·rename_i kt el hu
    split at hc
    ·rename_i ag ls l hk hs
     simp only [Option.some.injEq,Prod.mk.injEq] at hc
     obtain ⟨rfl,rfl⟩:=hc
     simp only [zao] at hf
     split at hf
     ·rename_i mg kg hl
      simp only [Option.map_eq_some_iff] at hf
      obtain ⟨H',hg',rfl⟩:=hf
      exact zsQ hlaid hr fr hB ho' hu hk hs hl hg'
     ·cases hf
    ·cases hc
   ·cases hc
  ·cases hc
 ·rename_i hcl
  split at hc
  ·rename_i x y hx
   have ho':=ho.trans (congrArg Op.call (zgA hcl hx rfl))
   simp only [Option.map_eq_some_iff,Prod.mk.injEq] at hc
   obtain ⟨l,hs,rfl,rfl⟩:=hc
   exact fin (fun _ _ _=>rfl) hf fun v hv=>zlk (mx:=true) hr fr ho' hs hv
  ·cases hc
 ·rename_i hcl
  split at hc
  ·rename_i x y hx
   have ho':=ho.trans (congrArg Op.call (zgA hcl hx rfl))
   simp only [Option.map_eq_some_iff,Prod.mk.injEq] at hc
   obtain ⟨l,hs,rfl,rfl⟩:=hc
   exact fin (fun _ _ _=>rfl) hf fun v hv=>zlk (mx:=false) hr fr ho' hs hv
  ·cases hc
 ·cases hc
theorem zpI {call:Nat→List GV→GH→Option (GV × GH)} (hr:HR ro K H) (fr:FR K lam nt e a) (hB:e.gen≤B) {g:Nat} {op:BinOp} {t yt:TypeId} {x y:Operand} (ho:o.op=.binOp op t x y yt) {p:Prim} {srcs:List Src}
 (hc:cOp P ro hp o=some (p,srcs)) {f:Eff} (hf:zao call p (srcs.map (zac e)) ⟨e.s,g⟩ H=some f):StepOk P ro K lam nt e a o H f B g:=by
 have fin:∀ {p:Prim} {srcs:List Src},(∀ args e H,zao call p args e H=(zaF p args).map fun v=>⟨v,none,H,e.gen⟩)→zao call p (srcs.map (zac e)) ⟨e.s,g⟩ H=some f →
  (∀ v,zaF p (srcs.map (zac e))=some v→za7 P K lam a o v)→StepOk P ro K lam nt e a o H f B g:=by
  intro p srcs h1 h2 h3
  rw [h1,Option.map_eq_some_iff] at h2
  obtain ⟨v,hv,rfl⟩:=h2
  exact zaQ hr fr hB (h3 v hv)
 simp only [cOp,ho] at hc
 split at hc
 case h_2=>cases hc
 case h_1 l hs =>
  have bin:some (Prim.bin op,l)=some (p,srcs)→StepOk P ro K lam nt e a o H f B g:=by
   intro h
   simp only [Option.some.injEq,Prod.mk.injEq] at h
   obtain ⟨rfl,rfl⟩:=h
   exact fin (fun _ _ _=>rfl) hf fun v hv=>zAM hr fr ho hs hv
  have eq1:∀ (lf:Leaf),op=.eql∨op=.neq→zjn P t lf→(lf=.iface→zcN x=true∨zcN y=true)→some (Prim.eq1 (op == .neq) lf,l)=some (p,srcs)→StepOk P ro K lam nt e a o H f B g:=by
   intro lf hop h1 h2 h
   simp only [Option.some.injEq,Prod.mk.injEq] at h
   obtain ⟨rfl,rfl⟩:=h
   exact fin (fun _ _ _=>rfl) hf fun v hv=>zAN hr fr ho hop hs h1 h2 hv
  have eqv:op=.eql∨op=.neq→((∃ fs,P.underlying t=some (.struct fs))∨∃ n el,P.underlying t=some (.array n el)) →
   (if P.eqGuardType P.depth t=true then none else match zcT P 50 t,zaS P t with
     | some ls,some n=>if ls.length=n then some (Prim.eqv (op == .neq) ls,l) else none
     | _,_=>none)=some (p,srcs)→StepOk P ro K lam nt e a o H f B g:=by
   intro hop hu h
   have hag:zg9 P t=some true:=by
    rcases hu with ⟨fs,hu⟩ | ⟨n,el,hu⟩ <;> simp [zg9,hu]
   split at h
   ·cases h
   ·rename_i hgd
    split at h
    ·rename_i ls n hl hsz
     split at h
     ·rename_i hln
      simp only [Option.some.injEq,Prod.mk.injEq] at h
      obtain ⟨rfl,rfl⟩:=h
      exact fin (fun _ _ _=>rfl) hf fun v hv=>zAO hr fr ho hop hs hl hsz hag hln (by simpa using hgd) hv
     ·cases h
    ·cases h
  have eqs:op=.eql∨op=.neq→(match P.underlying t with
   | some (.int _) | some .string=>some (Prim.bin op,l)
   | some .bool=>some (.eq1 (op == .neq) .bool,l)
   | some (.pointer _)=>some (.eq1 (op == .neq) .ptr,l)
   | some (.slice _)=>some (.eq1 (op == .neq) .slice,l)
   | some (.map _ _)=>some (.eq1 (op == .neq) .map,l)
   | some (.func _ _ _)=>some (.eq1 (op == .neq) .func,l)
   | some (.interface _)=>if zcN x || zcN y then some (.eq1 (op == .neq) .iface,l) else none
   | some (.struct _) | some (.array _ _)=>if P.eqGuardType P.depth t then none else match zcT P 50 t,zaS P t with
    | some ls,some n=>if ls.length=n then some (.eqv (op == .neq) ls,l) else none
    | _,_=>none
   | _=>none)=some (p,srcs)→StepOk P ro K lam nt e a o H f B g:=by
   intro hop h
   split at h
   ·exact bin h
   ·exact bin h
   ·rename_i hu; exact eq1 .bool hop hu (by intro h; cases h) h
   ·rename_i u hu; exact eq1 .ptr hop ⟨_,hu⟩ (by intro h; cases h) h
   ·rename_i u hu; exact eq1 .slice hop ⟨_,hu⟩ (by intro h; cases h) h
   ·rename_i u v hu; exact eq1 .map hop ⟨_,_,hu⟩ (by intro h; cases h) h
   ·rename_i u v w hu; exact eq1 .func hop ⟨_,_,_,hu⟩ (by intro h; cases h) h
   ·rename_i u hu
    split at h
    ·rename_i hcc; exact eq1 .iface hop ⟨_,hu⟩ (fun _=>by simpa using hcc) h
    ·cases h
   ·rename_i u hu; exact eqv hop (.inl ⟨_,hu⟩) h
   ·rename_i n u hu; exact eqv hop (.inr ⟨_,_,hu⟩) h
   ·cases h
  cases op
  case eql=>exact eqs (.inl rfl) hc
  case neq=>exact eqs (.inr rfl) hc
  all_goals exact bin hc
end
section
variable {P:Program} {ro:Nat} {hp:List Nat} {K:Ctx} {H:GH} {lam:Nat→Option Nat} {nt:Nat} {e:Env} {a:Act} {o:Oper} {B gk:Nat}
theorem zh1 {α:Type} {c:Prop} [Decidable c] {x y p:α} (h:(if c then x else y)=p):x=p∨y=p:=by
 by_cases hc:c
 ·left; rwa [if_pos hc] at h
 ·right; rwa [if_neg hc] at h
theorem zsT (e:Env) (g sl n:Nat):zef ⟨e.s,g⟩ sl n=zef e sl n:=rfl
theorem zsU (e:Env) (H:GH) (g sz:Nat) (ag:Bool) (v:GV):zdD ⟨e.s,g⟩ H sz ag v=zdD e H sz ag v:=by
 cases v <;> rfl
theorem zls (hlaid:laidOutB P=true) {call:Nat→List GV→GH→Option (GV × GH)} (hr:HR ro K H) (fr:FR K lam nt e a) (hB:e.gen≤B) {g:Nat} (hg:lam g=none) {p:Prim} {srcs:List Src} (hgB:p.isBox=true→g<B) (hc:cOp P ro hp o=some (p,srcs)) (hnc:∀ c,o.op=.call c→p.isCall=false)
 {f:Eff} (hf:zao call p (srcs.map (zac e)) ⟨e.s,g⟩ H=some f):StepOk P ro K lam nt e a o H f B g:=by
 have fin:∀ {p:Prim} {srcs:List Src},(∀ args e H,zao call p args e H=(zaF p args).map fun v=>⟨v,none,H,e.gen⟩)→zao call p (srcs.map (zac e)) ⟨e.s,g⟩ H=some f →
  (∀ v,zaF p (srcs.map (zac e))=some v→za7 P K lam a o v)→StepOk P ro K lam nt e a o H f B g:=by
  intro p srcs h1 h2 h3
  rw [h1,Option.map_eq_some_iff] at h2
  obtain ⟨v,hv,rfl⟩:=h2
  exact zaQ hr fr hB (h3 v hv)
 cases ho:o.op
 case move x =>
  simp only [cOp,ho,Option.map_eq_some_iff,Prod.mk.injEq] at hc
  obtain ⟨s,hs,h,rfl⟩:=hc
  rcases zh1 h with rfl | rfl
  ·simp only [zao,List.map_cons,List.map_nil,Option.map_eq_some_iff] at hf
   obtain ⟨⟨v,H'⟩,hv,rfl⟩:=hf
   exact zh0 hr fr hB (.inl ho) hs hv
  ·exact fin (fun _ _ _=>rfl) hf fun v hv=>zAL hr fr (.inl ho) hs hv
 case assign x =>
  simp only [cOp,ho,Option.map_eq_some_iff,Prod.mk.injEq] at hc
  obtain ⟨s,hs,h,rfl⟩:=hc
  rcases zh1 h with rfl | rfl
  ·simp only [zao,List.map_cons,List.map_nil,Option.map_eq_some_iff] at hf
   obtain ⟨⟨v,H'⟩,hv,rfl⟩:=hf
   exact zh0 hr fr hB (.inr ho) hs hv
  ·exact fin (fun _ _ _=>rfl) hf fun v hv=>zAL hr fr (.inr ho) hs hv
 case pick c x y =>
  simp only [cOp,ho,Option.map_eq_some_iff,Prod.mk.injEq] at hc
  obtain ⟨s,hs,rfl,rfl⟩:=hc
  exact fin (fun _ _ _=>rfl) hf fun v hv=>zx2 hr fr ho hs hv
 case alloc t =>
  simp only [cOp,ho,Option.map_eq_some_iff,Prod.mk.injEq] at hc
  obtain ⟨z,hz,h,rfl⟩:=hc
  rcases zh1 h with rfl | rfl
  ·simp only [zao,List.map_nil,Option.some.injEq] at hf
   subst hf
   exact zmS hr fr hB ho hz
  ·simp only [zao,List.map_nil,Option.some.injEq] at hf
   subst hf
   exact zmR hr fr hB hg (hgB rfl) ho hz
 case box t x =>
  simp only [cOp,ho,Option.map_eq_some_iff,Prod.mk.injEq] at hc
  obtain ⟨s,hs,h,rfl⟩:=hc
  rcases zh1 h with rfl | h
  ·simp only [zao,List.map_cons,List.map_nil] at hf
   split at hf
   ·rename_i hok
    injection hf with hf
    subst hf
    exact zsR hr fr hB ho hs hok
   ·cases hf
  rcases zh1 h with rfl | rfl
  ·simp only [zao,List.map_cons,List.map_nil] at hf
   split at hf
   ·rename_i hok
    injection hf with hf
    subst hf
    exact zsL hr fr hB ho hs hok
   ·cases hf
  ·simp only [zao,List.map_cons,List.map_nil] at hf
   split at hf
   ·rename_i hok
    injection hf with hf
    subst hf
    exact zsK hr fr hB hg (hgB rfl) ho hs hok
   ·cases hf
 case build t ps =>
  simp only [cOp,ho] at hc
  split at hc
  ·rename_i fs z l hu hz hs
   simp only [Option.bind_eq_some_iff] at hc
   obtain ⟨pl,hpl,hc⟩:=hc
   split at hc
   ·rename_i hall
    simp only [Option.some.injEq,Prod.mk.injEq] at hc
    obtain ⟨rfl,rfl⟩:=hc
    exact fin (fun _ _ _=>rfl) hf fun v hv=>zn1 hr fr ho hz hs (.inl ⟨fs,hu,hpl,hall⟩) hv
   ·cases hc
  ·rename_i n el z l hu hz hs
   simp only [Option.map_eq_some_iff,Prod.mk.injEq] at hc
   obtain ⟨k,hk,rfl,rfl⟩:=hc
   exact fin (fun _ _ _=>rfl) hf fun v hv=>zn1 hr fr ho hz hs (.inr ⟨n,el,k,hu,hk,rfl⟩) hv
  ·cases hc
 case buildSlice t len ps =>
  simp only [cOp,ho] at hc
  split at hc
  ·rename_i el l hu hs
   split at hc
   ·rename_i sz z hsz hz
    split at hc
    ·rename_i hcc
     simp only [Option.some.injEq,Prod.mk.injEq] at hc
     obtain ⟨hp1,rfl⟩:=hc
     rcases zh1 hp1 with rfl | rfl
     ·simp only [zao] at hf
      split at hf
      ·rename_i hh
       injection hf with hf
       subst hf
       simp only [Bool.and_eq_true,beq_iff_eq,List.all_eq_true,decide_eq_true_eq] at hh
       obtain ⟨⟨⟨⟨⟨q1,q2⟩,q3⟩,q4⟩,q5⟩,q6⟩:=hh
       exact zmW hr fr hB ho hu hsz hz hcc.1 hcc.2.1 hcc.2.2 hs q1 (by simpa using q2) q3 q4 q6
      ·cases hf
     ·simp only [zao] at hf
      split at hf
      ·rename_i hh
       injection hf with hf
       subst hf
       simp only [Bool.and_eq_true,beq_iff_eq,List.all_eq_true,decide_eq_true_eq] at hh
       obtain ⟨⟨⟨⟨⟨q1,q2⟩,q3⟩,q4⟩,q5⟩,q6⟩:=hh
       exact zln hr fr hB ho hu hsz hz hcc.1 hcc.2.1 hcc.2.2 hs q1 (by simpa using q2) q3 q4 q6
      ·cases hf
    ·cases hc
   ·cases hc
  ·cases hc
 case makeSlice t x y =>
  simp only [cOp,ho] at hc
  split at hc
  ·rename_i el s u hu hs hs2
   split at hc
   ·rename_i sz by_ z hsz hby hz
    simp only [Option.some.injEq,Prod.mk.injEq] at hc
    obtain ⟨rfl,rfl⟩:=hc
    simp only [zao,List.map_cons,List.map_nil,Option.map_eq_some_iff] at hf
    obtain ⟨⟨v,H'⟩,hv,rfl⟩:=hf
    exact zpB hr fr hB ho hu hsz hby hz hs hs2 hv
   ·cases hc
  ·cases hc
 case load t x =>
  simp only [cOp,ho] at hc
  split at hc
  ·rename_i n ag s hsz ha hs
   simp only [Option.some.injEq,Prod.mk.injEq] at hc
   obtain ⟨h,rfl⟩:=hc
   split at h
   ·rename_i hfl
    subst h
    simp only [Bool.and_eq_true,beq_iff_eq,Bool.not_eq_true'] at hfl
    obtain ⟨_,rfl,rfl⟩:=hfl
    simp only [zao,List.map_cons,List.map_nil,Option.map_eq_some_iff] at hf
    obtain ⟨⟨v,H'⟩,hv,rfl⟩:=hf
    exact zpG hr fr hB ho hs hsz ha hv
   ·subst h
    simp only [zao,List.map_cons,List.map_nil,Option.map_eq_some_iff,zsU] at hf
    obtain ⟨v,hv,rfl⟩:=hf
    exact zaQ hr fr hB (zsM hr fr ho hs hsz ha hv)
  ·cases hc
 case store t x y =>
  simp only [cOp,ho] at hc
  split at hc
  ·rename_i n l hsz hs
   simp only [Option.some.injEq,Prod.mk.injEq] at hc
   obtain ⟨rfl,rfl⟩:=hc
   simp only [zao] at hf
   split at hf
   ·rename_i av v hl
    split at hf
    ·rename_i hh
     simp only [Bool.and_eq_true,beq_iff_eq] at hh
     split at hf
     ·rename_i sl gg off
      simp only [Option.bind_eq_some_iff,Option.map_eq_some_iff,zsT] at hf
      obtain ⟨cs,hd,cs',hp,rfl⟩:=hf
      exact zmT hr fr hB ho hs hsz hl hh.1.1 hh.1.2 hh.2 hd hp
     ·rename_i id off
      split at hf
      ·rename_i cs hd
       split at hf
       ·rename_i hbo
        simp only [Option.map_eq_some_iff] at hf
        obtain ⟨cs',hp,rfl⟩:=hf
        exact zmU hr fr hB ho hs hsz hl hh.1.1 hh.1.2 hh.2 hd hbo hp
       ·cases hf
      ·rename_i cs hd
       split at hf
       ·rename_i hbo
        simp only [Option.map_eq_some_iff] at hf
        obtain ⟨cs',hp,rfl⟩:=hf
        exact zmV hr fr hB ho hs hsz hl hh.1.1 hh.1.2 hh.2 hd hbo hp
       ·cases hf
      ·cases hf
     ·cases hf
    ·cases hf
   ·cases hf
  ·cases hc
 case fieldAddr t x i =>
  simp only [cOp,ho] at hc
  split at hc
  ·rename_i fs s hu hs
   simp only [Option.bind_eq_some_iff] at hc
   obtain ⟨fl,hfl,hc⟩:=hc
   split at hc
   ·rename_i n hn
    split at hc
    ·cases hc
    ·rename_i hn0
     simp only [Option.some.injEq,Prod.mk.injEq] at hc
     obtain ⟨rfl,rfl⟩:=hc
     exact fin (fun _ _ _=>rfl) hf fun v hv=>zvO hr fr ho hu hfl hn hn0 hs hv
   ·cases hc
  ·cases hc
 case field t x i =>
  simp only [cOp,ho] at hc
  split at hc
  ·rename_i fs s hu hs
   simp only [Option.bind_eq_some_iff] at hc
   obtain ⟨fl,hfl,hc⟩:=hc
   split at hc
   ·rename_i n ag hn ha
    simp only [Option.some.injEq,Prod.mk.injEq] at hc
    obtain ⟨rfl,rfl⟩:=hc
    exact fin (fun _ _ _=>rfl) hf fun v hv=>zvP hr fr ho hu hfl hn ha hs hv
   ·cases hc
  ·cases hc
 case indexAddr t x i =>
  simp only [cOp,ho] at hc
  split at hc
  ·rename_i el l hu hs
   simp only [Option.map_eq_some_iff,Prod.mk.injEq] at hc
   obtain ⟨n,hn,rfl,rfl⟩:=hc
   exact fin (fun _ _ _=>rfl) hf fun v hv=>zsF hr fr ho hu hn hs hv
  ·rename_i m el l hu hs
   simp only [Option.map_eq_some_iff,Prod.mk.injEq] at hc
   obtain ⟨n,hn,rfl,rfl⟩:=hc
   exact fin (fun _ _ _=>rfl) hf fun v hv=>zpx hr fr ho hu hn hs hv
  ·cases hc
 case index t x i =>
  simp only [cOp,ho] at hc
  split at hc
  ·rename_i l hu hs
   simp only [Option.some.injEq,Prod.mk.injEq] at hc
   obtain ⟨rfl,rfl⟩:=hc
   exact fin (fun _ _ _=>rfl) hf fun v hv=>zvQ hr fr ho hu hs hv
  ·rename_i n el l hu hs
   split at hc
   ·rename_i k ag hk ha
    simp only [Option.some.injEq,Prod.mk.injEq] at hc
    obtain ⟨rfl,rfl⟩:=hc
    exact fin (fun _ _ _=>rfl) hf fun v hv=>zvR hr fr ho hu hk ha hs hv
   ·cases hc
  ·cases hc
 case slice t x lo hi mx =>
  simp only [cOp,ho] at hc
  split at hc
  ·rename_i s l1 l2 hu hs h1 h2 h3
   split at hc
   ·rename_i hmx
    simp only [Option.some.injEq,Prod.mk.injEq] at hc
    obtain ⟨rfl,rfl⟩:=hc
    cases mx with
    | some m=>cases hmx
    | none=>exact fin (fun _ _ _=>rfl) hf fun v hv=>zvS hr fr ho hu hs h1 h2 hv
   ·cases hc
  ·rename_i el s l1 l2 l3 hu hs h1 h2 h3
   simp only [Option.map_eq_some_iff,Prod.mk.injEq] at hc
   obtain ⟨n,hn,rfl,rfl⟩:=hc
   exact fin (fun _ _ _=>rfl) hf fun v hv=>zx4 hr fr ho hu hn hs h1 h2 h3 hv
  ·rename_i n el s hu hs h1 h2 h3
   simp only [Option.map_eq_some_iff,Prod.mk.injEq] at hc
   obtain ⟨sz,hn,rfl,rfl⟩:=hc
   have none_of:∀ {y:Option Operand},zps ro y=some []→y=none:=fun {y} h=>by
    cases y with
    | none=>rfl
    | some y=>simp [zps] at h
   obtain rfl:=none_of h1
   obtain rfl:=none_of h2
   obtain rfl:=none_of h3
   exact fin (fun _ _ _=>rfl) hf fun v hv=>zvV hr fr ho hu hn hs hv
  ·cases hc
 case nilCheck x =>
  simp only [cOp,ho,Option.map_eq_some_iff,Prod.mk.injEq] at hc
  obtain ⟨s,hs,rfl,rfl⟩:=hc
  exact fin (fun _ _ _=>rfl) hf fun v hv=>zsG hr fr ho hs hv
 case binOp op t x y yt=>exact zpI hr fr hB ho hc hf
 case unOp op t x =>
  simp only [cOp,ho,Option.map_eq_some_iff,Prod.mk.injEq] at hc
  obtain ⟨s,hs,rfl,rfl⟩:=hc
  exact fin (fun _ _ _=>rfl) hf fun v hv=>zDw hr fr ho hs hv
 case convert u t x =>
  simp only [cOp,ho] at hc
  split at hc
  ·rename_i d k s hu ht hs
   simp only [Option.some.injEq,Prod.mk.injEq] at hc
   obtain ⟨rfl,rfl⟩:=hc
   exact fin (fun _ _ _=>rfl) hf fun v hv=>zx3 hr fr ho hu ht hs hv
  ·rename_i s hu ht hs
   simp only [Option.some.injEq,Prod.mk.injEq] at hc
   obtain ⟨rfl,rfl⟩:=hc
   exact fin (fun _ _ _=>rfl) hf fun v hv=>zvN hr fr ho hu ht hs hv
  ·rename_i el s hu ht hs
   split at hc
   ·rename_i hel hsz
    simp only [Option.some.injEq,Prod.mk.injEq] at hc
    obtain ⟨rfl,rfl⟩:=hc
    simp only [zao,List.map_cons,List.map_nil] at hf
    split at hf
    ·rename_i sb hv
     simp only [List.cons.injEq,and_true] at hv
     split at hf
     ·rename_i hlen
      injection hf with hf
      subst hf
      exact zvU hr fr hB ho hu ht hel hs hv hlen
     ·cases hf
    ·cases hf
   ·cases hc
  ·rename_i el s hu ht hs
   split at hc
   ·rename_i hel
    simp only [Option.some.injEq,Prod.mk.injEq] at hc
    obtain ⟨hp1,rfl⟩:=hc
    rcases zh1 hp1 with rfl | rfl
    ·simp only [zao,Option.map_eq_some_iff] at hf
     obtain ⟨v,hv,rfl⟩:=hf
     exact zaQ hr fr hB (zAQ hr fr ho hu ht hel hs hv)
    ·exact fin (fun _ _ _=>rfl) hf fun v hv=>zAP hr fr ho hu ht hel hs hv
   ·cases hc
  ·cases hc
 case makeFunc fn first captured =>
  cases fn with
  | func f =>
   simp only [cOp,ho,Option.map_eq_some_iff,Prod.mk.injEq] at hc
   obtain ⟨s,hs,rfl,rfl⟩:=hc
   exact fin (fun _ _ _=>rfl) hf fun v hv=>zsH hr fr ho hs hv
  | _=>simp [cOp,ho] at hc
 case extract x i =>
  simp only [cOp,ho,Option.map_eq_some_iff,Prod.mk.injEq] at hc
  obtain ⟨s,hs,rfl,rfl⟩:=hc
  exact fin (fun _ _ _=>rfl) hf fun v hv=>zgx hr fr ho hs hv
 case range t x =>
  simp only [cOp,ho] at hc
  split at hc
  ·rename_i hu
   simp only [Option.map_eq_some_iff,Prod.mk.injEq] at hc
   obtain ⟨s,hs,rfl,rfl⟩:=hc
   simp only [zao,List.map_cons,List.map_nil] at hf
   split at hf
   ·rename_i sb hv
    simp only [List.cons.injEq,and_true] at hv
    injection hf with hf
    subst hf
    exact zpz hr fr hB hg (hgB rfl) ho hu hs hv
   ·cases hf
  ·cases hc
 case next x b =>
  cases b with
  | false=>simp [cOp,ho] at hc
  | true =>
   simp only [cOp,ho,Option.map_eq_some_iff,Prod.mk.injEq] at hc
   obtain ⟨s,hs,rfl,rfl⟩:=hc
   simp only [zao,List.map_cons,List.map_nil] at hf
   split at hf
   ·rename_i sl gg off hv
    simp only [List.cons.injEq,and_true] at hv
    split at hf
    ·rename_i g' t pos hi
     split at hf
     ·rename_i hgo
      obtain ⟨rfl,rfl⟩:=hgo
      split at hf
      ·rename_i hlt
       injection hf with hf
       subst hf
       exact (zlm hr fr hB ho hs hv hi).1 hlt
      ·rename_i hlt
       injection hf with hf
       subst hf
       exact (zlm hr fr hB ho hs hv hi).2 hlt
     ·cases hf
    ·cases hf
   ·cases hf
 case makeMap t r =>
  cases r with
  | some _=>simp [cOp,ho] at hc
  | none =>
   simp only [cOp,ho] at hc
   split at hc
   ·simp only [Option.map_eq_some_iff,Prod.mk.injEq] at hc
    obtain ⟨⟨ag,ls⟩,hk,rfl,rfl⟩:=hc
    simp only [zao,List.map_nil,Option.some.injEq] at hf
    subst hf
    exact zpE hr fr hB ho
   ·cases hc
 case lookup t x i ok =>
  simp only [cOp,ho] at hc
  split at hc
  ·rename_i k el hu
   split at hc
   ·rename_i ag ls z l hk hz hs
    simp only [Option.some.injEq,Prod.mk.injEq] at hc
    obtain ⟨rfl,rfl⟩:=hc
    simp only [zao] at hf
    split at hf
    ·rename_i mg kg hl
     simp only [Option.map_eq_some_iff] at hf
     obtain ⟨r,hg',rfl⟩:=hf
     exact zpD hlaid hr fr hB ho hu hk hz hs hl hg'
    ·cases hf
   ·cases hc
  ·cases hc
 case mapUpdate t m k x =>
  simp only [cOp,ho] at hc
  split at hc
  ·rename_i kt el hu
   split at hc
   ·rename_i ag ls l hk hs
    simp only [Option.some.injEq,Prod.mk.injEq] at hc
    obtain ⟨rfl,rfl⟩:=hc
    simp only [zao] at hf
    split at hf
    ·rename_i mg kg vg hl
     simp only [Option.map_eq_some_iff] at hf
     obtain ⟨H',hg',rfl⟩:=hf
     exact zsS hlaid hr fr hB ho hu hk hs hl hg'
    ·cases hf
   ·cases hc
  ·cases hc
 case call c =>
  simp only [cOp,ho] at hc
  exact zmZ hlaid hr fr hB ho hc (hnc c ho) hf
 all_goals (simp [cOp,ho] at hc)
end
def zlt (P:Program) (ro:Nat) (K:Ctx) (H:GH) (f:FuncId) (us:Array Value) (v:GV) (H':GH):Prop :=
 ∀ (o:Oper) (a:Act) (next:Act→World→Prop) (Q:Exit→Act→World→Prop),
  (∀ rv K',HR ro K' H'→VR K' v rv→Ext (fun _=>False) H.bo H.bt K K'→next (a.put o.dst rv) K'.w)→o.upon P a next Q ((callFunc f us).run P K.w)
def zbe (P:Program) (ro:Nat) (call:Nat→List GV→GH→Option (GV × GH)):Prop :=
 laidOutB P=true∧∀ f args H v H',call f args H=some (v,H')→oks args=true→∀ K us,HR ro K H→CR K args us→zlt P ro K H f us v H'
def zbr (call:Nat→List GV→GH→Option (GV × GH)):Prop:=∀ f args H v H',call f args H=some (v,H')→H'.bo=H.bo∧H'.bt=H.bt
structure Sim (ro:Nat) (K0:Ctx) (H0:GH) (nt:Nat) (s:St) (a:Act) (w:World) (K:Ctx) (lam:Nat→Option Nat):Prop where
 w:K.w=w
 hr:HR ro K s.H
 fr:FR K lam nt s.e a
 ext:Ext (fun _=>False) H0.bo H0.bt K0 K
 new:∀ n b,lam n=some b→K0.w.heap.size≤b
 bo:s.H.bo=H0.bo
 bt:s.H.bt=H0.bt
def SimS (ro:Nat) (K0:Ctx) (H0:GH) (nt:Nat) (s:St) (a:Act) (w:World):Prop:=∃ K lam,Sim ro K0 H0 nt s a w K lam
section
variable {P:Program} {ro:Nat} {hp:List Nat} {K K0:Ctx} {H H0:GH} {lam:Nat→Option Nat} {nt:Nat} {e:Env} {a:Act} {o:Oper} {w:World}
theorem zcE {H H':GH} {ty sz by_:Nat} {s x v:GV} (h:zaU H ty sz by_ s x=some (v,H')):H'.bo=H.bo∧H'.bt=H.bt:=by
 unfold zaU at h
 simp only [Option.bind_eq_some_iff] at h
 obtain ⟨news,_,h⟩:=h
 split at h
 ·split at h
  ·injection h with h; injection h with h1 h2; subst h2; exact ⟨rfl,rfl⟩
  ·split at h
   ·injection h with h; injection h with h1 h2; subst h2; exact ⟨rfl,rfl⟩
   ·cases h
 ·split at h
  ·cases h
  ·split at h
   ·injection h with h; injection h with h1 h2; subst h2; exact ⟨rfl,rfl⟩
   split at h
   ·cases h
   ·split at h
    ·split at h
     ·cases h
     ·injection h with h; injection h with h1 h2; subst h2; exact ⟨rfl,rfl⟩
     ·split at h
      ·injection h with h; injection h with h1 h2; subst h2; exact ⟨rfl,rfl⟩
      ·cases h
    ·cases h
 ·split at h
  ·split at h
   ·injection h with h; injection h with h1 h2; subst h2; exact ⟨rfl,rfl⟩
   ·cases h
  ·cases h
 ·cases h
theorem zcF {H H':GH} {args:List GV} {v:GV} (h:zaR H args=some (v,H')):H'.bo=H.bo∧H'.bt=H.bt:=by
 unfold zaR at h
 repeat' split at h
 all_goals first | (cases h; done) | (injection h with h; injection h with _ h; subst h; exact ⟨rfl,rfl⟩)
theorem zdL {H H':GH} {ag:Bool} {ls:List Leaf} {m k v:GV} (h:zbb H ag ls m k v=some H'):H'.bo=H.bo∧H'.bt=H.bt:=by
 unfold zbb at h
 repeat' split at h
 all_goals first | (cases h; done) | (injection h with h; subst h; exact ⟨rfl,rfl⟩)
theorem zju {H H':GH} {ag:Bool} {ls:List Leaf} {m k v:GV} (h:zdh H ag ls m k v=some H'):H'.bo=H.bo∧H'.bt=H.bt:=by
 unfold zdh at h
 split at h
 ·simp only [Option.bind_eq_some_iff] at h
  obtain ⟨⟨v,H1⟩,h1,h2⟩:=h
  have k1:=zcF h1
  have k2:=zdL h2
  exact ⟨k2.1.trans k1.1,k2.2.trans k1.2⟩
 ·exact zdL h
theorem zjv {H H':GH} {ag:Bool} {ls:List Leaf} {m k:GV} (h:zka H ag ls m k=some H'):H'.bo=H.bo∧H'.bt=H.bt:=by
 unfold zka at h
 repeat' split at h
 all_goals first | (cases h; done) | (injection h with h; subst h; exact ⟨rfl,rfl⟩)
theorem zfW {H H':GH} {ty sz bytes:Nat} {s x v:GV} (h:za9 H ty sz bytes s x=some (v,H')):H'.bo=H.bo∧H'.bt=H.bt:=by
 unfold za9 at h
 simp only [Option.bind_eq_some_iff] at h
 obtain ⟨news,_,h⟩:=h
 repeat' split at h
 all_goals first | exact zcE h | (cases h; done) | (injection h with h; injection h with _ h; subst h; exact ⟨rfl,rfl⟩)
theorem zh2 {H H':GH} {sz:Nat} {zero:GV} {args:List GV} {v:GV} (h:ze0 H sz zero args=some (v,H')):H'.bo=H.bo∧H'.bt=H.bt:=by
 unfold ze0 at h
 repeat' split at h
 all_goals first | (cases h; done) | (injection h with h; injection h with _ h; subst h; exact ⟨rfl,rfl⟩)
theorem zh3 {H H':GH} {a v:GV} (h:zfI H a=some (v,H')):H'.bo=H.bo∧H'.bt=H.bt:=by
 unfold zfI at h
 repeat' split at h
 all_goals first | (cases h; done) | (injection h with h; injection h with _ h; subst h; exact ⟨rfl,rfl⟩) | (simp only [Option.map_eq_some_iff] at h; obtain ⟨⟨v1,H1⟩,h1,h2⟩:=h; injection h2 with _ h2; subst h2; exact ⟨(zcF h1).1,(zcF h1).2⟩)
theorem zh4 {call:Nat→List GV→GH→Option (GV × GH)} {p:Prim} {args:List GV} {f:Eff} (hk:zbr call) (h:zao call p args e H=some f) :
 f.H.bo=H.bo∧f.H.bt=H.bt∧f.gen=if p.isBox then e.gen+1 else e.gen:=by
 cases p <;> simp only [zao,Prim.isBox,if_true,if_false,Bool.false_eq_true] at h ⊢
 case freeze =>
  simp only [Option.map_eq_some_iff] at h
  obtain ⟨⟨v,H'⟩,h1,rfl⟩:=h
  exact ⟨(zcF h1).1,(zcF h1).2,rfl⟩
 case loadF =>
  split at h
  ·simp only [Option.map_eq_some_iff] at h
   obtain ⟨⟨v,H'⟩,h1,rfl⟩:=h
   exact ⟨(zh3 h1).1,(zh3 h1).2,rfl⟩
  ·cases h
 case appendT =>
  split at h
  ·simp only [Option.map_eq_some_iff] at h
   obtain ⟨⟨v,t⟩,h1,rfl⟩:=h
   exact ⟨rfl,rfl,rfl⟩
  ·cases h
 case clearR =>
  simp only [Option.map_eq_some_iff] at h
  obtain ⟨⟨v,H'⟩,h1,rfl⟩:=h
  exact ⟨(zh2 h1).1,(zh2 h1).2,rfl⟩
 case appendN =>
  split at h
  ·simp only [Option.map_eq_some_iff] at h
   obtain ⟨⟨v,H'⟩,h1,rfl⟩:=h
   exact ⟨(zfW h1).1,(zfW h1).2,rfl⟩
  ·cases h
 case boxI=>(split at h <;> try split at h) <;> first | (injection h with h; subst h; exact ⟨rfl,rfl,rfl⟩) | cases h
 case mkmap=>split at h <;> first | (injection h with h; subst h; exact ⟨rfl,rfl,rfl⟩) | cases h
 case mset =>
  split at h
  ·simp only [Option.map_eq_some_iff] at h
   obtain ⟨H',h1,rfl⟩:=h
   exact ⟨(zju h1).1,(zju h1).2,rfl⟩
  ·cases h
 case mdel =>
  split at h
  ·simp only [Option.map_eq_some_iff] at h
   obtain ⟨H',h1,rfl⟩:=h
   exact ⟨(zjv h1).1,(zjv h1).2,rfl⟩
  ·cases h
 case mlook =>
  split at h
  ·simp only [Option.map_eq_some_iff] at h
   obtain ⟨_,_,rfl⟩:=h
   exact ⟨rfl,rfl,rfl⟩
  ·cases h
 case mlen =>
  split at h
  ·simp only [Option.map_eq_some_iff] at h
   obtain ⟨_,_,rfl⟩:=h
   exact ⟨rfl,rfl,rfl⟩
  ·cases h
 case makeR =>
  split at h
  ·simp only [Option.map_eq_some_iff] at h
   obtain ⟨⟨v,H'⟩,h1,rfl⟩:=h
   unfold zle at h1
   split at h1
   ·split at h1
    ·injection h1 with h1; injection h1 with h2 h3; subst h3; exact ⟨rfl,rfl,rfl⟩
    ·cases h1
   ·cases h1
  ·cases h
 case append =>
  split at h
  ·simp only [Option.map_eq_some_iff] at h
   obtain ⟨⟨v,H'⟩,h1,rfl⟩:=h
   exact ⟨(zcE h1).1,(zcE h1).2,rfl⟩
  ·cases h
 case appendS =>
  split at h
  ·simp only [Option.map_eq_some_iff] at h
   obtain ⟨⟨v,H'⟩,h1,rfl⟩:=h
   exact ⟨(zcE h1).1,(zcE h1).2,rfl⟩
  ·cases h
 case call =>
  split at h
  ·simp only [Option.map_eq_some_iff] at h
   obtain ⟨⟨v,H'⟩,h1,rfl⟩:=h
   exact ⟨(hk _ _ _ _ _ h1).1,(hk _ _ _ _ _ h1).2,rfl⟩
  ·cases h
 case callP =>
  split at h
  ·simp only [Option.map_eq_some_iff] at h
   obtain ⟨⟨v,H'⟩,h1,rfl⟩:=h
   exact ⟨rfl,rfl,rfl⟩
  ·cases h
 case callv =>
  split at h
  ·split at h
   ·simp only [Option.map_eq_some_iff] at h
    obtain ⟨⟨v,H'⟩,h1,rfl⟩:=h
    exact ⟨(hk _ _ _ _ _ h1).1,(hk _ _ _ _ _ h1).2,rfl⟩
   ·cases h
  ·cases h
 case store =>
  split at h
  ·split at h
   ·split at h
    ·simp only [Option.bind_eq_some_iff,Option.map_eq_some_iff] at h
     obtain ⟨_,_,_,_,rfl⟩:=h
     exact ⟨rfl,rfl,rfl⟩
    ·split at h
     ·split at h
      ·simp only [Option.map_eq_some_iff] at h
       obtain ⟨_,_,rfl⟩:=h
       exact ⟨rfl,rfl,rfl⟩
      ·cases h
     ·split at h
      ·simp only [Option.map_eq_some_iff] at h
       obtain ⟨_,_,rfl⟩:=h
       exact ⟨rfl,rfl,rfl⟩
      ·cases h
     ·cases h
    ·cases h
   ·cases h
  ·cases h
 case next =>
  split at h
  ·split at h
   ·split at h
    ·split at h <;> (injection h with h; subst h; exact ⟨rfl,rfl,rfl⟩)
    ·cases h
   ·cases h
  ·cases h
 case allocL=>split at h <;> first | (injection h with h; subst h; exact ⟨rfl,rfl,rfl⟩) | cases h
 case allocH=>split at h <;> first | (injection h with h; subst h; exact ⟨rfl,rfl,rfl⟩) | cases h
 case range=>split at h <;> first | (injection h with h; subst h; exact ⟨rfl,rfl,rfl⟩) | cases h
 case allocK=>split at h <;> first | (injection h with h; subst h; exact ⟨rfl,rfl,rfl⟩) | cases h
 case rangeK=>split at h <;> first | (injection h with h; subst h; exact ⟨rfl,rfl,rfl⟩) | cases h
 case boxK=>(split at h <;> try split at h) <;> first | (injection h with h; subst h; exact ⟨rfl,rfl,rfl⟩) | cases h
 case buildR=>split at h <;> first | (injection h with h; subst h; exact ⟨rfl,rfl,rfl⟩) | cases h
 case buildSl=>split at h <;> first | (injection h with h; subst h; exact ⟨rfl,rfl,rfl⟩) | cases h
 case boxL=>(split at h <;> try split at h) <;> first | (injection h with h; subst h; exact ⟨rfl,rfl,rfl⟩) | cases h
 case boxH=>(split at h <;> try split at h) <;> first | (injection h with h; subst h; exact ⟨rfl,rfl,rfl⟩) | cases h
 case s2b=>(split at h <;> try split at h) <;> first | (injection h with h; subst h; exact ⟨rfl,rfl,rfl⟩) | cases h
 case load =>
  split at h
  ·simp only [Option.map_eq_some_iff] at h
   obtain ⟨_,_,rfl⟩:=h
   exact ⟨rfl,rfl,rfl⟩
  ·cases h
 all_goals
  simp only [Option.map_eq_some_iff] at h
  obtain ⟨_,_,rfl⟩:=h
  exact ⟨rfl,rfl,rfl⟩
def Eff.onB (f:Eff) (B:Nat) (d:Option Nat) (s:St):St:={ f with gen:=B }.on d s
theorem Sim.step {s:St} (hs:Sim ro K0 H0 nt s a w K lam) (hρ:∀ b,K0.ρ b→b<K0.w.heap.size) {f:Eff} {B:Nat} (hb:f.H.bo=s.H.bo∧f.H.bt=s.H.bt) {gk:Nat} (hst:StepOk P ro K lam nt s.e a o s.H f B gk) (hd:∀ d,o.dst=some d→d<nt)
 {next:Act→World→Prop} {Q:Exit→Act→World→Prop} (hn:∀ a' w' K' lam',Sim ro K0 H0 nt (f.onB B o.dst s) a' w' K' lam'→(∀ n,n≠gk→lam' n=lam n)→next a' w'):o.wp P a w next Q:=by
 obtain ⟨K',lam',rv,hrun,hr',hx,hl1,hl2,hl3,hfr⟩:=hst
 have sim:Sim ro K0 H0 nt (f.onB B o.dst s) (a.put o.dst rv) K'.w K' lam':=by
  refine ⟨rfl,hr',hfr o.dst hd,hs.ext.trans (by rw [← hs.bo,← hs.bt]; exact hx) (fun b h1 h2=>?_),fun n b h=>?_,hb.1.trans hs.bo,hb.2.trans hs.bt⟩
  ·obtain ⟨n,hn⟩:=h2
   exact absurd (hs.new n b hn) (Nat.not_le.2 (hρ b h1))
  ·rcases hl2 n b h with h | h
   ·exact hs.new n b h
   ·exact Nat.le_trans hs.ext.size h
 have hw:=hs.w
 subst hw
 rcases hrun with hrun | ⟨hrun,rfl⟩
 ·rw [Oper.wp,hrun]; exact hn _ _ _ _ sim hl3
 ·rw [Oper.wp,hrun]; exact hn _ _ _ _ sim hl3
theorem zsV {f:FuncId} {c:Call} (ho:o.op=.call c) (hc:c.callee=.value (.func f)) (ρ:Operand→Value) (hρ:ρ (.func f)=.func (.func f) #[] #[]):execOp ρ o=callFunc f (c.args.map ρ):=by
 simp [execOp,ho,resolve,hc,hρ,Deferred.ofValue,invoke]
theorem zpJ {c:Call} {x:Operand} (ho:o.op=.call c) (hc:c.callee=.value x) (ρ:Operand→Value) {f:FuncId} {us vs:Array Value} (hρ:ρ x=.func (.func f) us vs):execOp ρ o=callFunc f (us++c.args.map ρ++vs):=by
 simp [execOp,ho,resolve,hc,hρ,Deferred.ofValue,invoke]
theorem CR.append {K:Ctx} {xs ys:List GV} {us vs:Array Value} (h:CR K xs us) (h':CR K ys vs):CR K (xs++ys) (us++vs):=by
 refine ⟨by simp [h.1,h'.1],fun i c v hc hv=>?_⟩
 by_cases hi:i<xs.length
 ·rw [List.getElem?_append_left hi] at hc
  rw [Array.getElem?_append_left (by rw [← h.1]; exact hi)] at hv
  exact h.2 i c v hc hv
 ·rw [List.getElem?_append_right (by omega)] at hc
  rw [Array.getElem?_append_right (by rw [← h.1]; omega),← h.1] at hv
  exact h'.2 _ c v hc hv
theorem zsW (hr:HR ro K H) (fr:FR K lam nt e a) {xs:Array Operand} {l:List Src} (hs:zbn ro xs.toList=some l) (hok:oks (l.map (zac e))=true):CR K (l.map (zac e)) (xs.map a.eval):=by
 obtain ⟨h1,h2⟩:=zei hr fr hs
 refine ⟨by simpa using h1,fun i c v hc hv=>?_⟩
 simp only [Array.getElem?_map,Option.map_eq_some_iff] at hv
 obtain ⟨z,hz,rfl⟩:=hv
 exact (h2 i c z hc (by simpa using hz)).1.vr (zfc hok hc)
theorem Sim.called {s:St} (hs:Sim ro K0 H0 nt s a w K lam) {f:FuncId} {us:Array Value} {v:GV} {H':GH} {B n':Nat} (hB:s.e.gen≤B) (hb:H'.bo=s.H.bo∧H'.bt=s.H.bt) (hto:zlt P ro K s.H f us v H') (hrun:execOp a.eval o=callFunc f us) (hd:∀ d,o.dst=some d→d<nt)
 {next:Act→World→Prop} {Q:Exit→Act→World→Prop} (hn:∀ a' w' K',Sim ro K0 H0 nt (Eff.onB ⟨v,none,H',n'⟩ B o.dst s) a' w' K' lam→next a' w'):o.wp P a w next Q:=by
 have hw:=hs.w
 subst hw
 rw [Oper.wp,hrun]
 refine hto o a next Q (fun rv K' hr' hv hx=>hn _ _ K' ⟨rfl,hr', ?_,hs.ext.trans (by rw [← hs.bo,← hs.bt]; exact hx) (fun _ _ (h:False)=>h.elim),hs.new,hb.1.trans hs.bo,hb.2.trans hs.bt⟩)
 exact hs.fr.step (f:=⟨v,none,H',n'⟩) (m:=none) (B:=B) hx (fun _ _ h=>h) (fun n b h=>(hx.loc b (hs.fr.lamρ n b h)).1) hs.fr.linj (fun n hn=>hs.fr.gen n (by omega)) (fun n b h _=>(hx.loc b (hs.fr.lamρ n b h)).2 (fun h=>h.elim)) hd (SR.of hv)
  (fun n hn=>absurd hn (zai hv.ok n)) (fun n h=>by cases h) (fun s g h=>by cases h)
theorem zkf {rowA:Bool} {c:Call} {p:Prim} {srcs:List Src} (h:∀ x,c.callee≠.value x) (hc:zlf P ro rowA c=some (p,srcs)):p.isCall=false:=by
 unfold zlf at hc
 repeat' split at hc
 all_goals first
  | (cases hc; done)
  | exact absurd ‹c.callee=_› (h _)
  | (simp only [Option.map_eq_some_iff,Prod.mk.injEq] at hc
     obtain ⟨_,_,rfl,_⟩:=hc
     rfl)
  | (simp only [Option.some.injEq,Prod.mk.injEq] at hc
     obtain ⟨rfl,_⟩:=hc
     rfl)
theorem zm0 {call:Nat→List GV→GH→Option (GV × GH)} (hcall:zbe P ro call) (hk:zbr call) {s:St} (hs:Sim ro K0 H0 nt s a w K lam) (hρ:∀ b,K0.ρ b→b<K0.w.heap.size) {p:Prim} {srcs:List Src} {B g:Nat} (hB:s.e.gen≤B) (hg:lam g=none)
 (hgB:p.isBox=true→g<B) (hc:cOp P ro hp o=some (p,srcs)) (hd:∀ d,o.dst=some d→d<nt) {f:Eff} (hf:zao call p (srcs.map (zac s.e)) ⟨s.e.s,g⟩ s.H=some f) {next:Act→World→Prop} {Q:Exit→Act→World→Prop}
 (hn:∀ a' w' K' lam',Sim ro K0 H0 nt (f.onB B o.dst s) a' w' K' lam'→(∀ n,n≠g→lam' n=lam n)→next a' w'):o.wp P a w next Q:=by
 have plain:(∀ c,o.op=.call c→p.isCall=false)→o.wp P a w next Q:=by
  intro hnc
  obtain ⟨k1,k2,k3⟩:=zh4 hk hf
  exact hs.step hρ ⟨k1,k2⟩ (zls hcall.1 (call:=call) hs.hr hs.fr (B:=B) hB (g:=g) hg hgB hc hnc hf) hd hn
 cases ho:o.op
 case call c =>
  have hc':=hc
  simp only [cOp,ho] at hc'
  unfold zlf at hc'
  split at hc'
  ·rename_i fn hcl
   simp only [Option.map_eq_some_iff,Prod.mk.injEq] at hc'
   obtain ⟨l,hl,rfl,rfl⟩:=hc'
   simp only [zao] at hf
   split at hf
   ·rename_i hok
    simp only [Option.map_eq_some_iff] at hf
    obtain ⟨⟨v,H'⟩,hv,rfl⟩:=hf
    exact hs.called hB (hk _ _ _ _ _ hv) (hcall.2 _ _ _ _ _ hv hok K _ hs.hr (zsW hs.hr hs.fr hl hok)) (zsV ho hcl a.eval rfl) hd (fun a' w' K' h=>hn a' w' K' lam h fun _ _=>rfl)
   ·cases hf
  ·rename_i x _ hcl
   simp only [Option.map_eq_some_iff,Prod.mk.injEq] at hc'
   obtain ⟨l,hl,rfl,rfl⟩:=hc'
   obtain ⟨s1,l1,h1,h2,rfl⟩:=zdk hl
   simp only [zao] at hf
   split at hf
   ·rename_i fn first captured rest he
    simp only [List.map_cons,List.cons.injEq] at he
    obtain ⟨he,rfl⟩:=he
    split at hf
    ·rename_i hok
     simp only [Option.map_eq_some_iff] at hf
     obtain ⟨⟨v,H'⟩,hv,rfl⟩:=hf
     have q1:=(zaa hs.hr hs.fr h1).1
     rw [he] at q1
     cases hq:a.eval x <;> rw [hq] at q1 <;> try (cases q1; done)
     rename_i fv us vs
     cases q1 with
     | func hx hy g1 g2 =>
     have hall:oks (first++l1.map (zac s.e)++captured)=true:=by
      have o1:oks first=true:=by
       simp only [oks,List.all_eq_true]
       intro z hz
       obtain ⟨i,hi,e⟩:=List.mem_iff_getElem.1 hz
       exact (g1 i z us[i] (by rw [List.getElem?_eq_getElem hi,e]) (by rw [Array.getElem?_eq_getElem])).ok
      have o2:oks captured=true:=by
       simp only [oks,List.all_eq_true]
       intro z hz
       obtain ⟨i,hi,e⟩:=List.mem_iff_getElem.1 hz
       exact (g2 i z vs[i] (by rw [List.getElem?_eq_getElem hi,e]) (by rw [Array.getElem?_eq_getElem])).ok
      simp only [oks,List.all_append,Bool.and_eq_true] at *
      exact ⟨⟨o1,hok⟩,o2⟩
     exact hs.called hB (hk _ _ _ _ _ hv) (hcall.2 _ _ _ _ _ hv hall K _ hs.hr ((CR.append ⟨hx,g1⟩ (zsW hs.hr hs.fr h2 hok)).append ⟨hy,g2⟩)) (zpJ ho hcl a.eval hq) hd (fun a' w' K' h=>hn a' w' K' lam h fun _ _=>rfl)
    ·cases hf
   ·cases hf
  case h_9=>cases hc'
  all_goals
   rename_i hcl
   exact plain fun c' hc'=>by
    rw [ho] at hc'
    injection hc' with hc'
    subst hc'
    simp only [cOp,ho] at hc
    exact zkf (fun x h=>by rw [hcl] at h; cases h) hc
 all_goals exact plain fun c hc=>by rw [ho] at hc; cases hc
theorem zAR {call:Nat→List GV→GH→Option (GV × GH)} (hcall:zbe P ro call) (hk:zbr call) {s:St} (hs:SimS ro K0 H0 nt s a w) (hρ:∀ b,K0.ρ b→b<K0.w.heap.size) {p:Prim} {srcs:List Src} (hc:cOp P ro hp o=some (p,srcs))
 (hd:∀ d,o.dst=some d→d<nt) {f:Eff} (hf:zao call p (srcs.map (zac s.e)) s.e s.H=some f) {next:Act→World→Prop} {Q:Exit→Act→World→Prop}
 (hn:∀ a' w',SimS ro K0 H0 nt (f.on o.dst s) a' w'→next a' w'):o.wp P a w next Q:=by
 obtain ⟨K,lam,hs⟩:=hs
 obtain ⟨k1,k2,k3⟩:=zh4 hk hf
 refine zm0 hcall hk hs hρ (B:=f.gen) (g:=s.e.gen) ?_ (hs.fr.gen _ (Nat.le_refl _)) (fun h=>?_) hc hd hf (fun a' w' K' lam' h _=>hn a' w' ⟨K',lam',h⟩)
 ·rw [k3]; split <;> omega
 ·rw [k3,h]; simp
end
open Go.Maps (Keyed)
section
variable {P:Program} {ro:Nat} {K:Ctx} {H:GH}
theorem zh5 (hl:laidOutB P=true) (hr:HR ro K H) {t k el:TypeId} {ag:Bool} {ls:List Leaf} {id:Nat} {kg vg:GV} {mv kv vv:Value} {H':GH} (hu:P.underlying t=some (.map k el)) (hk:zaY P k=some (ag,ls)) (q1:VR K (.map id) mv) (q2:VR K kg kv) (q3:VR K vg vv) (hg:zbb H ag ls (.map id) kg vg=some H') :
 ∃ b ents clock es,mv=.map (some b)∧K.φ id=some b∧id<H.objs.length∧K.w.heap[b]?=some (.map ents clock)∧H.objs[id]?=some (.map ag ls es) ∧
  (∀ (w:World) d,(Instr.checkKey d 10000 k kv).run P w=.ok () w)∧(∀ w:World,(Instr.keyThatStays kv kv).run P w=.ok kv w)∧((∀ m∈ents.toList,m.born<clock)∧ents.toList.Pairwise (fun a b=>a.born≠b.born)) ∧
  (((∀ w:World,(Instr.findKey k kv ents.toList).run P w=.ok none w)∧(∀ m∈ents.toList,m.key≠kv)∧zaX es kg=none ∧
      HR ro (K.at { K.w with heap:=K.w.heap.setIfInBounds b (.map (ents.push ⟨kv,vv,clock⟩) (clock+1)) }) H'∧Ext (fun _=>False) H.bo H.bt K (K.at { K.w with heap:=K.w.heap.setIfInBounds b (.map (ents.push ⟨kv,vv,clock⟩) (clock+1)) })) ∨
   (∃ j m p,(∀ w:World,(Instr.findKey k kv ents.toList).run P w=.ok (some (j,m.val)) w)∧ents[j]?=some m∧m.key=kv∧zaX es kg=some p∧VR K p m.val ∧
     HR ro (K.at { K.w with heap:=K.w.heap.setIfInBounds b (.map (ents.modify j fun e'=>{ e' with key:=kv,val:=vv }) clock) }) H'∧Ext (fun _=>False) H.bo H.bt K (K.at { K.w with heap:=K.w.heap.setIfInBounds b (.map (ents.modify j fun e'=>{ e' with key:=kv,val:=vv }) clock) }))):=by
 have Q:=zfT hl hk
 simp only [zbb] at hg
 split at hg
 case h_2=>cases hg
 rename_i ag' ls' es hd
 split at hg
 case isFalse=>cases hg
 rename_i hc
 obtain ⟨rfl,rfl,hkg,hvok,hbo⟩:=hc
 injection hg with hg; subst hg
 obtain ⟨kl,hkl⟩:=zdJ hk q2 hkg
 obtain ⟨hw,b,ents,clock,h3,h4,hm⟩:=hr.obj id _ hd
 cases q1 with
 | @map _ b' hid hpp =>
 obtain rfl:=hpp b h3
 obtain ⟨es',E⟩:=zgy hw hm
 obtain ⟨⟨hbn,hbd⟩,_⟩:=hm
 have hkes:∀ p∈es,zaA ag' ls' p.1=true:=hw.1
 have hidl:id<H.objs.length:=(List.getElem?_eq_some_iff.1 hd).1
 have done:∀ ents' clock',(∀ K':Ctx,Ext (fun _=>False) H.bo H.bt K K'→zAJ K' (zas es kg vg) ents' clock') →
  HR ro (K.at { K.w with heap:=K.w.heap.setIfInBounds b (.map ents' clock') }) { H with objs:=H.objs.set id (.map ag' ls' (zas es kg vg)) }∧Ext (fun _=>False) H.bo H.bt K (K.at { K.w with heap:=K.w.heap.setIfInBounds b (.map ents' clock') }):=by
  intro ents' clock' hmr
  have hws:=zke (.map ents' clock') h4
  have x0:Ext (fun _=>False) H.bo H.bt K (K.at _):=(hr.obj_set h3 hbo hws (o:=.dead) trivial).2
  exact hr.obj_set h3 hbo hws (o:=.map ag' ls' (zas es kg vg)) ⟨zlq hw hkg vg,b,ents',clock',h3,zhZ _ h4,hmr _ x0⟩
 have hkeys:∀ m∈ents.toList,∃ l,keyOf P k m.key=some l:=fun m hm=>by
  obtain ⟨i,hi,rfl⟩:=List.mem_iff_getElem.1 hm
  have hi':i<ents.size:=by simpa using hi
  have hie:i<es'.length:=by rw [E.len]; exact hi'
  have:=E.vr i es'[i] ents[i] (List.getElem?_eq_getElem hie) (Array.getElem?_eq_getElem hi')
  exact zdJ hk (by simpa using this.1) (E.key _ (List.getElem_mem hie))
 refine ⟨b,ents,clock,es,rfl,h3,hidl,h4,hd,fun w d=>Q.check w d hkl,fun w=>Q.stays w hkl,⟨hbn,hbd⟩, ?_⟩
 rcases Q.find K.w hkl ents.toList hkeys with ⟨f1,f2⟩ | ⟨j,m,f1,f2,f3⟩
 ·left
  have hne:∀ p∈es',p.1≠kg:=fun p hp e=>by
   obtain ⟨i,hi,rfl⟩:=List.mem_iff_getElem.1 hp
   have hi':i<ents.size:=by rw [← E.len]; exact hi
   have hvr:=E.vr i es'[i] ents[i] (List.getElem?_eq_getElem hi) (Array.getElem?_eq_getElem hi')
   exact f2 ents[i] (by simp) ((zhX (E.key _ hp) hkg hvr.1 q2).1 e)
  have hne':∀ p∈es,p.1≠kg:=fun p hp=>hne p (E.perm.mem_iff.2 hp)
  refine ⟨fun w=>?_,f2,zlp hkes hkg hne',done _ _ fun K' x=>?_⟩
  ·rcases Q.find w hkl ents.toList hkeys with ⟨g1,_⟩ | ⟨j,m,_,g2,g3⟩
   ·exact g1
   ·exact absurd g3 (f2 m (List.mem_of_getElem? g2))
  ·refine ⟨⟨?_, ?_⟩,es'++[(kg,vg)], ?_,by simp [E.len], ?_⟩
   ·intro m hm
    simp only [Array.toList_push,List.mem_append,List.mem_singleton] at hm
    rcases hm with hm | rfl
    ·exact Nat.lt_succ_of_lt (hbn m hm)
    ·exact Nat.lt_succ_self _
   ·rw [Array.toList_push,List.pairwise_append]
    exact ⟨hbd,by simp,fun c hc d hd=>by simp at hd; subst hd; exact Nat.ne_of_lt (hbn c hc)⟩
   ·rw [zeC hkes hkg hne']
    exact E.perm.append_right _
   ·intro i p m hp hm
    rw [Array.getElem?_push] at hm
    split at hm
    ·rename_i hi
     injection hm with hm; subst hm
     rw [List.getElem?_append_right (by have:=E.len; omega)] at hp
     have:i - es'.length=0:=by have:=E.len; omega
     rw [this] at hp
     simp at hp; subst hp
     exact ⟨q2.ext x,q3.ext x⟩
    ·have hi:=(Array.getElem?_eq_some_iff.1 hm).1
     rw [List.getElem?_append_left (by rw [E.len]; exact hi)] at hp
     have:=E.vr i p m hp hm
     exact ⟨this.1.ext x,this.2.ext x⟩
 ·right
  have hj:ents[j]?=some m:=by simpa using f2
  have hjl:j<ents.size:=(Array.getElem?_eq_some_iff.1 hj).1
  have hje:j<es'.length:=by rw [E.len]; exact hjl
  have hvr:=E.vr j es'[j] m (List.getElem?_eq_getElem hje) hj
  have hpk:es'[j].1=kg:=(zhX (E.key _ (List.getElem_mem hje)) hkg hvr.1 q2).2 f3
  have hpm:es'[j]∈es:=E.perm.mem_iff.1 (List.getElem_mem hje)
  refine ⟨j,m,es'[j].2,fun w=>?_,hj,f3,zhl E.one' hkes hkg hpm hpk,hvr.2,done _ _ fun K' x=>?_⟩
  ·rcases Q.find w hkl ents.toList hkeys with ⟨_,g2⟩ | ⟨j',m',g1,g2,g3⟩
   ·exact absurd f3 (g2 m (List.mem_of_getElem? f2))
   ·have hj':ents[j']?=some m':=by simpa using g2
    have hjl':j'<ents.size:=(Array.getElem?_eq_some_iff.1 hj').1
    have hje':j'<es'.length:=by rw [E.len]; exact hjl'
    have hvr':=E.vr j' es'[j'] m' (List.getElem?_eq_getElem hje') hj'
    have hpk':es'[j'].1=kg:=(zhX (E.key _ (List.getElem_mem hje')) hkg hvr'.1 q2).2 g3
    have:j'=j:=by
     rcases Nat.decEq j' j with hne | he
     ·exact absurd (hpk'.trans hpk.symm) (E.ne (List.getElem?_eq_getElem hje') (List.getElem?_eq_getElem hje) hne)
     ·exact he
    subst this
    rw [hj] at hj'; injection hj' with hj'; subst hj'
    exact g1
  ·have hlist:(ents.modify j fun e'=>{ e' with key:=kv,val:=vv }).toList=ents.toList.set j { m with key:=kv,val:=vv }:=by
    rw [Array.toList_modify,ChangeMaps.modify_eq_set _ _ _ m f2]
   have hborn:(ents.toList.set j { m with key:=kv,val:=vv }).map (·.born)=ents.toList.map (·.born):=by
    refine List.ext_getElem (by simp) (fun i hi hi'=>?_)
    simp only [List.getElem_map,List.getElem_set]
    split
    ·rename_i hij
     subst hij
     have:=(Array.getElem?_eq_some_iff.1 hj).2
     simp [this]
    ·rfl
   refine ⟨⟨?_, ?_⟩,es'.map (fun p=>if zbZ p.1 kg then (kg,vg) else p), ?_,by simp [E.len], ?_⟩
   ·intro m' hm'
    rw [hlist] at hm'
    have:m'.born∈ents.toList.map (·.born):=by rw [← hborn]; exact List.mem_map_of_mem hm'
    obtain ⟨c,hc,hcb⟩:=List.mem_map.1 this
    rw [← hcb]; exact hbn c hc
   ·rw [hlist]
    have h5:(ents.toList.map (·.born)).Pairwise (·≠·):=List.pairwise_map.2 hbd
    rw [← hborn] at h5
    exact List.pairwise_map.1 h5
   ·rw [zgz hkes hkg hpm hpk]
    exact E.perm.map _
   ·intro i q m' hq' hm'
    rw [List.getElem?_map,Option.map_eq_some_iff] at hq'
    obtain ⟨q0,hq0,rfl⟩:=hq'
    have hm2:(ents.toList.set j { m with key:=kv,val:=vv })[i]?=some m':=by rw [← hlist,Array.getElem?_toList]; exact hm'
    by_cases hij:i=j
    ·subst hij
     rw [List.getElem?_eq_getElem hje] at hq0
     injection hq0 with hq0; subst hq0
     rw [(zaL (hkes _ hpm) hkg).2 hpk]
     simp [hjl] at hm2
     subst hm2
     exact ⟨q2.ext x,q3.ext x⟩
    ·have hne:¬ zbZ q0.1 kg=true:=fun h=>E.ne hq0 (List.getElem?_eq_getElem hje) hij (((zaL (E.key q0 (List.mem_of_getElem? hq0)) hkg).1 h).trans hpk.symm)
     rw [if_neg hne]
     rw [List.getElem?_set_ne (Ne.symm hij)] at hm2
     have:=E.vr i q0 m' hq0 (by simpa using hm2)
     exact ⟨this.1.ext x,this.2.ext x⟩
def zx7 (P:Program) (k:TypeId) (kv:Value) (ents:Array MapEntry) (born:Int):Prop :=
 ∃ j m,(∀ w:World,(Instr.findKey k kv ents.toList).run P w=.ok (some (j,m.val)) w)∧ents[j]?=some m∧m.key=kv∧ents.findIdx? (fun e=>(e.born:Int) == born)=some j
theorem zn2 {ents:Array MapEntry} {j:Nat} {m:MapEntry} (hd:ents.toList.Pairwise (fun a b=>a.born≠b.born)) (hj:ents[j]?=some m):ents.findIdx? (fun e=>(e.born:Int) == (m.born:Int))=some j:=by
 obtain ⟨hlt,rfl⟩:=Array.getElem?_eq_some_iff.1 hj
 rw [Array.findIdx?_eq_some_iff_getElem]
 refine ⟨hlt,by simp,fun i hi hc=>?_⟩
 have:=(List.pairwise_iff_getElem.1 hd) i j (by simpa using (by omega:i<ents.size)) (by simpa using hlt) hi
 simp only [beq_iff_eq] at hc
 simp only [Array.getElem_toList] at this
 omega
theorem zpK (hl:laidOutB P=true) (hr:HR ro K H) {t k el:TypeId} {ag:Bool} {ls:List Leaf} {id:Nat} {kg z:GV} {r:Option GV} {mv kv:Value} {H':GH} (hu:P.underlying t=some (.map k el)) (hk:zaY P k=some (ag,ls)) (hz:zcz P el=some z) (q1:VR K (.map id) mv) (q2:VR K kg kv)
 (hget:ze8 H ag ls (.map id) kg=some r) (hg:zbb H ag ls (.map id) kg (r.getD z)=some H') :
 ∃ b rv K' ents clock,∃ born:Nat,mv=.map (some b)∧(Instr.mapEntry t mv kv).run P K.w=.ok (.tuple #[rv,goInt born]) K'.w∧VR K' (r.getD z) rv∧HR ro K' H'∧Ext (fun _=>False) H.bo H.bt K K'∧K'.φ id=some b∧K'.w.heap[b]?=some (.map ents clock)∧zx7 P k kv ents born:=by
 obtain ⟨zv,hzv,hzr⟩:=zc2 hz
 have hzvr:VR K z zv:=zaP K _ _ _ hzv
 have hval:∃ vv,VR K (r.getD z) vv∧(r=none→vv=zv)∧∀ p,r=some p→∀ b ents clock j (m:MapEntry),mv=.map (some b)→K.w.heap[b]?=some (.map ents clock)→(∀ w:World,(Instr.findKey k kv ents.toList).run P w=.ok (some (j,m.val)) w)→vv=m.val:=by
  cases r with
  | none=>exact ⟨zv,hzvr,fun _=>rfl,fun p h=>by cases h⟩
  | some p =>
   obtain ⟨b,ents,clock,es,e1,e2,e3,e4,e5,_,_,_,hcase⟩:=zh5 hl hr hu hk q1 q2 hzvr (vg:=z) (vv:=zv) (H':={ H with objs:=H.objs.set id (.map ag ls (match H.objs[id]? with | some (.map _ _ es)=>zas es kg z | _=>[])) }) (by
    simp only [ze8,zbb] at hget hg ⊢
    split at hg
    case h_2=>cases hg
    rename_i ag' ls' es hd
    split at hg
    case isFalse=>cases hg
    rename_i hc
    obtain ⟨rfl,rfl,c1,c2,c3⟩:=hc
    rw [if_pos ⟨rfl,rfl,c1,by exact hzvr.ok,c3⟩,hd])
   have hmg:zaX es kg=some p:=by
    simp only [ze8,e5] at hget
    split at hget
    ·exact Option.some.inj hget
    ·cases hget
   rcases hcase with ⟨_,_,h,_⟩ | ⟨j,m,p',f1,f2,f3,f4,f5,_⟩
   ·rw [hmg] at h; cases h
   ·rw [hmg] at f4; injection f4 with f4; subst f4
    refine ⟨m.val,f5,(fun h=>by cases h),fun p' _ b' ents' clock' j' m' h1 h2 h3=>?_⟩
    rw [e1] at h1; injection h1 with h1; injection h1 with h1; subst h1
    rw [e4] at h2; injection h2 with h2; injection h2 with h2 _; subst h2
    have:=(f1 K.w).symm.trans (h3 K.w)
    simp only [Result.ok.injEq,Option.some.injEq,Prod.mk.injEq,and_true] at this
    exact this.2
 obtain ⟨vv,hvv,hv0,hv1⟩:=hval
 obtain ⟨b,ents,clock,es,e1,e2,e3,e4,e5,ck,st,⟨hbn,hbd⟩,hcase⟩:=zh5 hl hr hu hk q1 q2 hvv hg
 have hmg:zaX es kg=r:=by
  simp only [ze8,e5] at hget
  split at hget
  ·exact Option.some.inj hget
  ·cases hget
 rcases hcase with ⟨f1,f2,f3,hr',hx⟩ | ⟨j,m,p,f1,f2,f3,f4,f5,hr',hx⟩
 ·have hr0:r=none:=by rw [← hmg,f3]
  have hvz:=hv0 hr0
  subst hvz
  have hb':(K.at { K.w with heap:=K.w.heap.setIfInBounds b (.map (ents.push ⟨kv,vv,clock⟩) (clock+1)) }).w.heap[b]?=some (.map (ents.push ⟨kv,vv,clock⟩) (clock+1)):=zhZ _ e4
  refine ⟨b,vv,_,_,_,clock,e1, ?_,hvv.ext hx,hr',hx,e2,hb', ?_⟩
  ·rw [e1]
   simp [Instr.mapEntry,run_underlying hu,MapKept.run_getObj_map e4,ck,f1,hzr,MapKept.run_setObj_map _ e4,Ctx.at]
  ·obtain ⟨hw2,b2,ents2,clock2,p1,p2,p3⟩:=hr'.obj id (.map ag ls (zas es kg (r.getD z))) (by
    simp only [zbb,e5] at hg
    split at hg
    ·injection hg with hg; subst hg; simp [e3]
    ·cases hg)
   have p1':K.φ id=some b2:=p1
   rw [e2] at p1'; injection p1' with p1'; subst p1'
   rw [hb'] at p2; injection p2 with p2; injection p2 with p2 p2'; subst p2 p2'
   obtain ⟨es2,E2⟩:=zgy hw2 p3
   obtain ⟨⟨_,hbd2⟩,_⟩:=p3
   have hkg:zaA ag ls kg=true:=by
    simp only [zbb,e5] at hg
    split at hg
    ·rename_i hc; exact hc.2.2.1
    ·cases hg
   have hlast:(ents.push ⟨kv,vv,clock⟩)[ents.size]?=some (⟨kv,vv,clock⟩:MapEntry):=by simp
   refine ⟨ents.size,⟨kv,vv,clock⟩,fun w=>?_,hlast,rfl,zn2 (m:=⟨kv,vv,clock⟩) hbd2 hlast⟩
   rcases zfU hl hk E2 (q2.ext hx) hkg w with ⟨_,h,_⟩ | ⟨j,m,p,g1,g2,g3,g4,g5,g6⟩
   ·have hks:∀ q∈es,zaA ag ls q.1=true:=(hr.obj id _ e5).1.1
    exfalso
    have hin:(kg,r.getD z)∈zas es kg (r.getD z):=by
     rw [zeC hks hkg (fun q hq e=>by
      have:zaX es kg=some q.2:=zhl (hr.obj id _ e5).1.2 hks hkg hq e
      rw [f3] at this; cases this)]
     simp
    have:=zhl hw2.2 hw2.1 hkg hin rfl
    rw [h] at this; cases this
   ·have:j=ents.size:=by
     rw [Array.getElem?_push] at g2
     split at g2
     ·assumption
     ·exact absurd g5 (f2 m (by
       have:=(Array.getElem?_eq_some_iff.1 g2)
       rw [← this.2]; simp))
    subst this
    rw [hlast] at g2; injection g2 with g2; subst g2
    exact g1
 ·have hr1:r=some p:=by rw [← hmg,f4]
  have hvm:=hv1 p hr1 b ents clock j m e1 e4 f1
  subst hvm
  have hjl:j<ents.size:=(Array.getElem?_eq_some_iff.1 f2).1
  have heq:(ents.modify j fun e'=>{ e' with key:=kv,val:=m.val })=ents:=by
   apply Array.toList_inj.1
   rw [Array.toList_modify,ChangeMaps.modify_eq_set _ _ _ m (by simpa using f2)]
   have:({ m with key:=kv,val:=m.val } : MapEntry)=m:=by rw [← f3]
   rw [this]
   refine List.ext_getElem (by simp) fun i h1 h2=>?_
   rw [List.getElem_set]
   split
   ·rename_i h; subst h
    have:=(Array.getElem?_eq_some_iff.1 f2).2
    simp [this]
   ·rfl
  have heq2:(ents.modify j fun e'=>{ e' with key:=kv })=ents:=by
   apply Array.toList_inj.1
   rw [Array.toList_modify,ChangeMaps.modify_eq_set _ _ _ m (by simpa using f2)]
   have:({ m with key:=kv } : MapEntry)=m:=by rw [← f3]
   rw [this]
   refine List.ext_getElem (by simp) fun i h1 h2=>?_
   rw [List.getElem_set]
   split
   ·rename_i h; subst h
    have:=(Array.getElem?_eq_some_iff.1 f2).2
    simp [this]
   ·rfl
  rw [heq] at hr' hx
  have hb':(K.at { K.w with heap:=K.w.heap.setIfInBounds b (.map ents clock) }).w.heap[b]?=some (.map ents clock):=zhZ _ e4
  refine ⟨b,m.val,_,_,_,m.born,e1, ?_,hvv.ext hx,hr',hx,e2,hb',j,m,f1,f2,f3,zn2 hbd f2⟩
  rw [e1]
  simp [Instr.mapEntry,run_underlying hu,MapKept.run_getObj_map e4,ck,f1,f2,f3,st,MapKept.run_setObj_map _ e4,heq2,Ctx.at]
theorem zm1 (hl:laidOutB P=true) (hr:HR ro K H) {t t' k el:TypeId} {ag:Bool} {ls:List Leaf} {id b:Nat} {kg vg:GV} {kv xv:Value} {H':GH} (hu:P.underlying t=some (.map k el)) (hk:zaY P k=some (ag,ls)) (hφ:K.φ id=some b) {ents:Array MapEntry} {clock:Nat} {born:Nat} (hb:K.w.heap[b]?=some (.map ents clock)) (hS:zx7 P k kv ents born)
 (q2:VR K kg kv) (q3:VR K vg xv) (hg:zbb H ag ls (.map id) kg vg=some H') :
 ∃ K',(Instr.entryStore t' (.map (some b)) (goInt born) xv).run P K.w=.ok () K'.w∧HR ro K' H'∧Ext (fun _=>False) H.bo H.bt K K':=by
 have q1:VR K (.map id) (.map (some b)):=.map ((hr.dom id b hφ).1) (fun c hc=>by rw [hφ] at hc; injection hc with hc; exact hc.symm)
 obtain ⟨b',ents',clock',es,e1,e2,e3,e4,e5,ck,st,_,hcase⟩:=zh5 hl hr hu hk q1 q2 q3 hg
 injection e1 with e1; injection e1 with e1; subst e1
 rw [hb] at e4; injection e4 with e4; injection e4 with e4 e4'; subst e4 e4'
 obtain ⟨j,m,s1,s2,s3,s4⟩:=hS
 rcases hcase with ⟨f1,_⟩ | ⟨j',m',p,f1,f2,f3,f4,f5,hr',hx⟩
 ·have:=(f1 K.w).symm.trans (s1 K.w); cases this
 ·have hj:j'=j:=by
   have:=(f1 K.w).symm.trans (s1 K.w)
   simp only [Result.ok.injEq,Option.some.injEq,Prod.mk.injEq,and_true] at this
   exact this.1
  subst hj
  rw [s2] at f2; injection f2 with f2; subst f2
  have heq:(ents.modify j' fun e'=>{ e' with key:=kv,val:=xv })=ents.modify j' fun e'=>{ e' with val:=xv }:=by
   apply Array.toList_inj.1
   rw [Array.toList_modify,Array.toList_modify,ChangeMaps.modify_eq_set _ _ _ m (by simpa using s2),ChangeMaps.modify_eq_set _ _ _ m (by simpa using s2)]
   rw [← s3]
  rw [heq] at hr' hx
  refine ⟨_, ?_,hr',hx⟩
  simp [Instr.entryStore,MapKept.run_getObj_map hb,s4,MapKept.run_setObj_map _ hb,Ctx.at,goInt,asInt,asIntOf]
end
section
variable {P:Program} {ro:Nat} {hp:List Nat} {K0:Ctx} {H0:GH} {nt:Nat} {a:Act} {o:Oper} {w:World} {ops:Array Oper}
theorem zn3 {l:List Oper} {io:IOp} (h:zkz P ro hp nt l o=some io) :
 ∃ p srcs,io.ak=none∧zAK P ro hp o=(p,srcs)∧io.prim=p∧io.args=srcs∧io.dst=o.dst∧(∀ d,o.dst=some d→d<nt) ∧
  ((o.guard=none∧io.guard=none)∨∃ j want d,o.guard=some (j,want)∧(l[j]?).bind (·.dst)=some d∧d<nt∧io.guard=some (d,want)):=by
 rcases hp':zAK P ro hp o with ⟨p,srcs⟩
 have fin:(∀ d,o.dst=some d→d<nt)→(match o.guard with
  | none=>some (⟨o.dst,none,p,srcs,none⟩:IOp)
  | some (j,want)=>match (l[j]?).bind (·.dst) with
   | some d=>if d<nt then some ⟨o.dst,some (d,want),p,srcs,none⟩ else none
   | none=>none)=some io→∃ p' srcs',io.ak=none∧(p,srcs)=(p',srcs')∧io.prim=p'∧io.args=srcs'∧io.dst=o.dst∧(∀ d,o.dst=some d→d<nt) ∧
  ((o.guard=none∧io.guard=none)∨∃ j want d,o.guard=some (j,want)∧(l[j]?).bind (·.dst)=some d∧d<nt∧io.guard=some (d,want)):=by
  intro hd' h
  split at h
  ·rename_i hg
   injection h with h
   subst h
   exact ⟨p,srcs,rfl,rfl,rfl,rfl,rfl,hd',.inl ⟨hg,rfl⟩⟩
  ·rename_i j want hg
   split at h
   ·rename_i d hj
    split at h
    ·rename_i hdn
     injection h with h
     subst h
     exact ⟨p,srcs,rfl,rfl,rfl,rfl,rfl,hd',.inr ⟨j,want,d,hg,hj,hdn,rfl⟩⟩
    ·cases h
   ·cases h
 cases hdst:o.dst with
 | none =>
  simp only [zkz,hp',hdst,if_true] at h
  have hd':∀ d,o.dst=some d→d<nt:=fun d h=>by rw [hdst] at h; cases h
  rw [hdst] at fin
  exact fin (fun d h=>by cases h) h
 | some d =>
  simp only [zkz,hp',hdst,decide_eq_true_eq] at h
  by_cases hd:d<nt
  ·rw [if_pos hd] at h
   rw [hdst] at fin
   exact fin (fun d' h=>by injection h with h; exact h ▸ hd) h
  ·rw [if_neg hd] at h; cases h
theorem zlu {s:St} {K:Ctx} {lam:Nat→Option Nat} (hs:Sim ro K0 H0 nt s a w K lam) (hd:∀ d,o.dst=some d→d<nt):Sim ro K0 H0 nt { s with e:=s.e.put o.dst (.tup []) } (a.put o.dst undef) w K lam:=by
 refine ⟨hs.w,hs.hr, ?_,hs.ext,hs.new,hs.bo,hs.bt⟩
 have:=hs.fr.step (f:=⟨.tup [],none,s.H,s.e.gen⟩) (m:=none) (B:=s.e.gen) (rv:=undef) (dst:=o.dst) (Ext.refl (fun _=>False) 0 0 K) (fun _ _ h=>h) (fun n b h=>hs.fr.lamρ n b h) hs.fr.linj (fun n hn=>hs.fr.gen n hn) (fun n b h _=>rfl) hd (SR.of (.tup rfl (fun i c v h=>by cases h)))
  (fun n hn=>hn.elim) (fun n h=>by cases h) (fun s g h=>by cases h)
 cases ho:o.dst <;> rw [ho] at this <;> exact this
theorem zvW {s:St} (hs:SimS ro K0 H0 nt s a w) (hd:∀ d,o.dst=some d→d<nt):SimS ro K0 H0 nt { s with e:=s.e.put o.dst (.tup []) } (a.put o.dst undef) w:=by
 obtain ⟨K,lam,hs⟩:=hs
 exact ⟨K,lam,zlu hs hd⟩
theorem zeE {s:St} (hs:SimS ro K0 H0 nt s a w) {g:Option (Nat × Bool)} {b:Bool} (hg:(o.guard=none∧g=none)∨∃ j want d,o.guard=some (j,want)∧(ops.toList[j]?).bind (·.dst)=some d∧d<nt∧g=some (d,want))
 (h:zbm s.e g=some b):Region.wanted o (yielded ops a.tmps)=b:=by
 obtain ⟨K,lam,hs⟩:=hs
 rcases hg with ⟨h1,rfl⟩ | ⟨j,want,d,h1,h2,h3,rfl⟩
 ·simp only [zbm,Option.some.injEq] at h
  simp [Region.wanted,h1,h]
 ·simp only [zbm] at h
  split at h
  ·rename_i c hc
   have hsr:=hs.fr.slot d
   rw [hc] at hsr
   have hq:a.tmps[d]?=some (.bool c):=by
    have hsz:d<a.tmps.size:=by rw [hs.fr.size]; exact h3
    rw [Array.getElem?_eq_getElem hsz]
    have:a.tmps.getD d undef=a.tmps[d]:=by simp [hsz]
    rw [← this]
    cases hv:a.tmps.getD d undef <;> rw [hv] at hsr <;> cases hsr
    rfl
   simp only [Array.getElem?_toList] at h2
   injection h with h
   subst h
   simp only [Region.wanted,h1,yielded,h2,Option.bind_some,hq]
   cases c <;> cases want <;> rfl
  ·rename_i hc
   have hsr:=hs.fr.slot d
   rw [hc] at hsr
   have hq:a.tmps[d]?=some (.tuple #[]):=by
    have hsz:d<a.tmps.size:=by rw [hs.fr.size]; exact h3
    rw [Array.getElem?_eq_getElem hsz]
    have:a.tmps.getD d undef=a.tmps[d]:=by simp [hsz]
    rw [← this]
    cases hv:a.tmps.getD d undef <;> rw [hv] at hsr <;> cases hsr
    rename_i vs hl _
    have:vs = #[]:=by simpa using hl.symm
    rw [this]
   simp only [Array.getElem?_toList] at h2
   injection h with h
   subst h
   simp only [Region.wanted,h1,yielded,h2,Option.bind_some,hq]
   cases want <;> rfl
  ·cases h
theorem zn4 {p:Prim} {srcs:List Src} (h:zAK P ro hp o=(p,srcs)):cOp P ro hp o=some (p,srcs)∨p=.trap:=by
 unfold zAK at h
 cases hc:cOp P ro hp o with
 | none=>rw [hc] at h; simp only [Option.getD_none,Prod.mk.injEq] at h; exact .inr h.1.symm
 | some q=>rw [hc] at h; simp only [Option.getD_some] at h; exact .inl (by rw [h])
theorem zsX {call:Nat→List GV→GH→Option (GV × GH)} (hcall:zbe P ro call) (hk:zbr call) {s s':St} {io:IOp} (hs:SimS ro K0 H0 nt s a w) (hρ:∀ b,K0.ρ b→b<K0.w.heap.size)
 (hc:zkz P ro hp nt ops.toList o=some io) (hg:gop call io s=some s') {next:Act→World→Prop} {Q:Exit→Act→World→Prop} (hn:∀ a' w',SimS ro K0 H0 nt s' a' w'→next a' w') :
 if Region.wanted o (yielded ops a.tmps) then o.wp P a w next Q∨(o.asks P a w∧LetsOut Q) else next (a.put o.dst undef) w:=by
 obtain ⟨p,srcs,_,h1,h2,h3,h4,h5,h6⟩:=zn3 hc
 unfold gop at hg
 split at hg
 ·cases hg
 ·rename_i hw
  rw [zeE hs h6 hw]
  injection hg with hg
  subst hg
  rw [h4] at hn
  exact hn _ _ (zvW hs h5)
 ·rename_i hw
  rw [zeE hs h6 hw]
  split at hg
  case isFalse=>cases hg
  simp only [Option.map_eq_some_iff] at hg
  obtain ⟨f,hf,rfl⟩:=hg
  rw [h2,h3] at hf
  rw [h4] at hn
  rcases zn4 h1 with hc' | rfl
  ·exact .inl (zAR hcall hk hs hρ hc' h5 hf hn)
  ·simp [zao,zaF] at hf
theorem zvX {call:Nat→List GV→GH→Option (GV × GH)} (hcall:zbe P ro call) (hk:zbr call) (hρ:∀ b,K0.ρ b→b<K0.w.heap.size) {s':St} {Q:Exit→Act→World→Prop} (hn:∀ a' w',SimS ro K0 H0 nt s' a' w'→Q .normal a' w') :
 ∀ (l:List Oper) (k:Nat) (ios:List IOp) (s:St) (a:Act) (w:World),(∀ j o,l[j]?=some o→ops[k+j]?=some o)→l.mapM (zkz P ro hp nt ops.toList)=some ios →
  zbC call ios s=some s'→SimS ro K0 H0 nt s a w→wpOps P ops Q (List.range' k l.length) a w:=by
 intro l
 induction l with
 | nil =>
  intro k ios s a w _ hm hg hs
  simp only [List.mapM_nil,Option.pure_def,Option.some.injEq] at hm
  subst hm
  simp only [zbC,Option.some.injEq] at hg
  subst hg
  exact hn _ _ hs
 | cons o l ih =>
  intro k ios s a w hl hm hg hs
  simp only [List.mapM_cons,Option.bind_eq_bind,Option.bind_eq_some_iff,Option.pure_def,Option.some.injEq] at hm
  obtain ⟨io,h1,ios',h2,rfl⟩:=hm
  simp only [zbC,Option.bind_eq_some_iff] at hg
  obtain ⟨s1,h3,h4⟩:=hg
  have h5:ops[k]?=some o:=hl 0 o rfl
  simp only [List.length_cons,List.range'_succ,wpOps,h5]
  exact zsX hcall hk hs hρ h1 h3 (fun a' w' hs'=>ih (k+1) ios' s1 a' w' (fun j o' hj=>by have:=hl (j+1) o' hj; rwa [show k+(j+1)=k+1+j by omega] at this) h2 h4 hs')
theorem zpL {call:Nat→List GV→GH→Option (GV × GH)} (hcall:zbe P ro call) (hk:zbr call) (hρ:∀ b,K0.ρ b→b<K0.w.heap.size) {s s':St} {Q:Exit→Act→World→Prop} (hn:∀ a' w',SimS ro K0 H0 nt s' a' w'→Q .normal a' w')
 {ios:List IOp} (hm:zDv P ro hp nt ops.toList=some ios) (hg:zbC call ios s=some s') (hs:SimS ro K0 H0 nt s a w) {id:Nat} : (Code.region id ops false).wp P Q a w:=by
 refine wp_region ?_
 rw [List.range_eq_range']
 have:=zvX hcall hk hρ hn ops.toList 0 ios s a w (fun j o h=>by simpa using h) hm hg hs
 simpa using this
def zh6 (a:Act) (r:ResultVar):Sem Value :=
 match r with
 | .tmp t=>pure (a.tmps.getD t undef)
 | .cell x t=>do loadVar t (← asAddr (a.tmps.getD x undef))
theorem zpM {s:St} {K:Ctx} {lam:Nat→Option Nat} (hr:HR ro K s.H) (fr:FR K lam nt s.e a) {r:ResultVar} {ir:IRes} {v:GV} (hc:zxa P r=some ir) (hg:zkb s ir=some v) :
 ∃ rv,(zh6 a r).run P K.w=.ok rv K.w∧VR K v rv:=by
 cases r with
 | tmp t =>
  simp only [zxa,Option.some.injEq] at hc
  subst hc
  simp only [zkb] at hg
  split at hg
  ·rename_i hok
   injection hg with hg
   subst hg
   exact ⟨_,rfl,(fr.slot t).vr hok⟩
  ·cases hg
 | cell x t =>
  simp only [zxa] at hc
  split at hc
  ·rename_i n ag hn ha
   injection hc with hc
   subst hc
   simp only [zkb] at hg
   obtain ⟨q1,_⟩:=zaa hr fr (ro:=ro) (x:=.tmp x) (s:=.slot x) rfl
   obtain ⟨b,oo,v',h1,h2,h3⟩:=zhU (P:=P) hr fr hg ha hn q1
   refine ⟨v', ?_,h3⟩
   have h1':a.tmps.getD x undef=.pointer (some ⟨b,oo,none⟩):=h1
   simp only [zh6,h1',asAddr,Sem.run_bind,Sem.run_pure,Result.andThen_ok,h2]
  ·cases hc
theorem zfX {s:St} {K:Ctx} {lam:Nat→Option Nat} (hr:HR ro K s.H) (fr:FR K lam nt s.e a) {fn:Func} {rs:List IRes} {v:GV} (hc:fn.results.toList.mapM (zxa P)=some rs) (hg:zaz s rs=some v) :
 ∃ rv,(results fn a.tmps).run P K.w=.ok rv K.w∧VR K v rv:=by
 have key:∀ (l:List ResultVar) (rs:List IRes) (vs:List GV),l.mapM (zxa P)=some rs→rs.mapM (zkb s)=some vs →
  ∃ rvs:List Value,(l.mapM (zh6 a)).run P K.w=.ok rvs K.w∧vs.length=rvs.length ∧
   ∀ (i:Nat) c u,vs[i]?=some c→rvs[i]?=some u→VR K c u:=by
  intro l
  induction l with
  | nil =>
   intro rs vs h1 h2
   simp only [List.mapM_nil,Option.pure_def,Option.some.injEq] at h1
   subst h1
   simp only [List.mapM_nil,Option.pure_def,Option.some.injEq] at h2
   subst h2
   exact ⟨[],rfl,rfl,fun i c u h=>by simp at h⟩
  | cons r l ih =>
   intro rs vs h1 h2
   simp only [List.mapM_cons,Option.bind_eq_bind,Option.bind_eq_some_iff,Option.pure_def,Option.some.injEq] at h1
   obtain ⟨ir,h3,rs',h4,rfl⟩:=h1
   simp only [List.mapM_cons,Option.bind_eq_bind,Option.bind_eq_some_iff,Option.pure_def,Option.some.injEq] at h2
   obtain ⟨v,h5,vs',h6,rfl⟩:=h2
   obtain ⟨rv,h7,h8⟩:=zpM hr fr h3 h5
   obtain ⟨rvs,h9,h10,h11⟩:=ih rs' vs' h4 h6
   refine ⟨rv::rvs, ?_,by simp [h10],fun i c u hc hu=>?_⟩
   ·simp only [List.mapM_cons,Sem.run_bind]
    rw [h7]
    simp only [Result.andThen_ok,h9,Sem.run_pure]
   ·cases i with
    | zero=>simp at hc hu; subst hc; subst hu; exact h8
    | succ i=>exact h11 i c u (by simpa using hc) (by simpa using hu)
 unfold zaz at hg
 simp only [Option.map_eq_some_iff] at hg
 obtain ⟨vs,h1,h2⟩:=hg
 obtain ⟨rvs,h3,h4,h5⟩:=key _ _ _ hc h1
 have hrun:(fn.results.mapM (zh6 a)).run P K.w=.ok rvs.toArray K.w:=by
  rw [Array.mapM_eq_mapM_toList,map_eq_pure_bind,Sem.run_bind,h3]
  rfl
 have hres:(results fn a.tmps).run P K.w=.ok (if h:rvs.toArray.size=1 then rvs.toArray[0] else .tuple rvs.toArray) K.w:=by
  have hq:(results fn a.tmps).run P K.w=((fn.results.mapM (zh6 a)).run P K.w).andThen fun vs w=>(pure (if h:vs.size=1 then vs[0] else .tuple vs):Sem Value).run P w:=by
   unfold results
   rw [Sem.run_bind]
   rfl
  rw [hq,hrun]
  rfl
 refine ⟨_,hres, ?_⟩
 by_cases hv:vs.length=1
 ·obtain ⟨v1,rfl⟩:=List.length_eq_one_iff.1 hv
  obtain ⟨u1,rfl⟩:=List.length_eq_one_iff.1 (h4.symm.trans hv)
  simp only at h2
  subst h2
  simpa using h5 0 v1 u1 rfl rfl
 ·have hv':v=.tup vs:=by
   match vs,hv,h2 with
   | [],_,h2=>exact h2.symm
   | [_],hv,_=>exact absurd rfl hv
   | _::_::_,_,h2=>exact h2.symm
  subst hv'
  rw [dif_neg (by simpa [← h4] using hv)]
  exact .tup (by simpa using h4) (fun i c u hc hu=>h5 i c u hc (by simpa using hu))
end
section
variable {P:Program} {ro:Nat} {hp:List Nat} {K0:Ctx} {H0:GH} {nt:Nat}
theorem zgB (all:List Oper):∀ (ops:List Oper) (ios:List IOp),ios.length=ops.length→(zdU P hp all ops ios).length=ops.length∧∀ (i:Nat) o io,ops[i]?=some o→ios[i]?=some io→(zdU P hp all ops ios)[i]?=some { io with ak:=cAk P hp all o,prim:=zmK hp io.prim }
 | [],[],_=>⟨rfl,fun i o io h=>by simp at h⟩
 | [],_::_,h=>by simp at h
 | _::_,[],h=>by simp at h
 | o::ops,io::ios,h=>by
  obtain ⟨h1,h2⟩:=zgB all ops ios (by simpa using h)
  refine ⟨by simp [zdU,h1],fun i o' io' ho hio=>?_⟩
  cases i with
  | zero=>simp at ho hio; subst ho; subst hio; simp [zdU]
  | succ i=>simp at ho hio; simpa [zdU] using h2 i o' io' ho hio
def zcG (hp:List Nat) (call:Nat→List GV→GH→Option (GV × GH)):Prop:=∀ f,hp.contains (f+2097152)=true→∀ args H v H',call f args H=some (v,H')→H'=H
theorem zh7 {H:GH} {ty sz bytes:Nat} {s x v:GV} {t:List Nat} (h:zbN H ty sz bytes s x=some (v,t)):∃ H',zaU H ty sz bytes s x=some (v,H')∧H'={ H with toks:=t }:=by
 unfold zbN at h
 split at h
 ·cases h
 ·rename_i hs
  simp only [Option.map_eq_some_iff] at h
  obtain ⟨⟨v',H'⟩,h1,h2⟩:=h
  injection h2 with h2 h3
  simp only at h2 h3
  subst h2
  refine ⟨H',h1, ?_⟩
  unfold zaU at h1
  simp only [Option.bind_eq_some_iff] at h1
  obtain ⟨news,_,h1⟩:=h1
  repeat' split at h1
  all_goals first
   | (cases h1; done)
   | (injection h1 with h1; injection h1 with _ h1; subst h1; subst h3; rfl)
   | (exfalso; exact hs _ _ _ _ _ rfl)
theorem zsY {call:Nat→List GV→GH→Option (GV × GH)} (hpc:zcG hp call) {p:Prim} {args:List GV} {e:Env} {H:GH} {f:Eff} (h:zao call (zmK hp p) args e H=some f):zao call p args e H=some f:=by
 cases p
 case call g =>
  simp only [zmK] at h
  split at h
  ·rename_i hg
   simp only [zao] at h ⊢
   split at h
   ·rename_i hok
    rw [if_pos hok]
    simp only [Option.map_eq_some_iff] at h ⊢
    obtain ⟨⟨v,H'⟩,h1,rfl⟩:=h
    have:=hpc g hg _ _ _ _ h1
    subst this
    exact ⟨_,h1,rfl⟩
   ·cases h
  ·exact h
 case append ty sz by_ =>
  simp only [zmK] at h
  split at h
  ·simp only [zao] at h ⊢
   split at h
   ·simp only [Option.map_eq_some_iff] at h ⊢
    obtain ⟨⟨v,t⟩,h1,rfl⟩:=h
    obtain ⟨H',h2,h3⟩:=zh7 h1
    exact ⟨_,h2,by rw [h3]⟩
   ·cases h
  ·exact h
 all_goals exact h
def Prim.isK:Prim→Bool
 | .allocK _ _ | .boxK _ | .rangeK _=>true
 | _=>false
theorem zkg {call:Nat→List GV→GH→Option (GV × GH)} {p:Prim} (hb:p.isBox=false) (hk:p.isK=false) {args:List GV} {l:List GV} (g g':Nat) {H:GH} {f:Eff} (h:zao call p args ⟨l,g⟩ H=some f):zao call p args ⟨l,g'⟩ H=some { f with gen:=g' }∧f.gen=g:=by
 have dr:∀ sl n,zef ⟨l,g⟩ sl n=zef ⟨l,g'⟩ sl n:=fun _ _=>rfl
 have ld:∀ sz ag v,zdD ⟨l,g⟩ H sz ag v=zdD ⟨l,g'⟩ H sz ag v:=fun sz ag v=>by cases v <;> rfl
 cases p <;> simp only [Prim.isBox,Prim.isK,Bool.true_eq_false] at hb hk <;> simp only [zao] at h ⊢
 case load =>
  split at h
  ·simp only [Option.map_eq_some_iff] at h ⊢
   obtain ⟨v,hv,rfl⟩:=h
   exact ⟨⟨v,by rw [← ld]; exact hv,rfl⟩,rfl⟩
  ·cases h
 case store =>
  split at h
  ·split at h
   ·rename_i hc
    rw [if_pos hc]
    split at h
    ·simp only [Option.bind_eq_some_iff,Option.map_eq_some_iff] at h ⊢
     obtain ⟨v,hv,u,hu,rfl⟩:=h
     exact ⟨⟨v,by rw [← dr]; exact hv,u,hu,rfl⟩,rfl⟩
    ·split at h
     ·split at h
      ·rename_i hbo
       simp only [Option.map_eq_some_iff] at h
       obtain ⟨v,hv,rfl⟩:=h
       simp [*]
      ·cases h
     ·split at h
      ·rename_i hbo
       simp only [Option.map_eq_some_iff] at h
       obtain ⟨v,hv,rfl⟩:=h
       simp [*]
      ·cases h
     ·cases h
    ·cases h
   ·cases h
  ·cases h
 case next =>
  split at h
  ·split at h
   ·split at h
    ·rename_i hc
     split at h
     ·rename_i hp
      injection h with h; subst h
      simp [*]
     ·rename_i hp
      injection h with h; subst h
      simp [*]
    ·cases h
   ·cases h
  ·cases h
 all_goals
  first
   | (simp only [Option.map_eq_some_iff] at h ⊢
      obtain ⟨v,hv,rfl⟩:=h
      exact ⟨⟨v,hv,rfl⟩,rfl⟩)
   | (repeat' split at h
      all_goals first
       | (cases h; done)
       | (injection h with h; subst h; first | exact ⟨rfl,rfl⟩ | simp [*])
       | (simp only [Option.map_eq_some_iff] at h
          obtain ⟨v,hv,rfl⟩:=h
          first
           | (simp [*]; done)
           | (rename_i hok
              rw [if_pos hok,hv]
              exact ⟨rfl,rfl⟩)))
theorem zsZ {call:Nat→List GV→GH→Option (GV × GH)} {p:Prim} {args:List GV} {l:List GV} {g k:Nat} {H:GH} {f:Eff} (h:zao call (p.rank k) args ⟨l,g⟩ H=some f):p.isK=false∧∃ n',zao call p args ⟨l,g+k⟩ H=some { f with gen:=n' }∧f.gen=g:=by
 cases p
 case allocK=>simp [Prim.rank,zao,zaF] at h
 case boxK=>simp [Prim.rank,zao,zaF] at h
 case rangeK=>simp [Prim.rank,zao,zaF] at h
 case allocL z =>
  simp only [Prim.rank,zao] at h ⊢
  split at h
  ·injection h with h; subst h; exact ⟨rfl,_,rfl,rfl⟩
  ·cases h
 case boxL =>
  simp only [Prim.rank,zao] at h ⊢
  split at h
  ·split at h
   ·rename_i hok
    injection h with h; subst h; rw [if_pos hok]; exact ⟨rfl,_,rfl,rfl⟩
   ·cases h
  ·cases h
 case range =>
  simp only [Prim.rank,zao] at h ⊢
  split at h
  ·injection h with h; subst h; exact ⟨rfl,_,rfl,rfl⟩
  ·cases h
 all_goals
  simp only [Prim.rank] at h
  have:=zkg rfl rfl g (g+k) h
  exact ⟨rfl,_,this.1,this.2⟩
theorem zs0 (p:Prim) (k:Nat):(zmK hp p).rank k=zmK hp (p.rank k):=by
 cases p <;> try rfl
 case call f =>
  by_cases h:hp.contains (f+2097152)=true
  ·simp only [zmK,Prim.rank,if_pos h]
  ·simp only [zmK,Prim.rank,if_neg h]
 case append =>
  by_cases h:hp.contains 33554432=true
  ·simp only [zmK,Prim.rank,if_pos h]
  ·simp only [zmK,Prim.rank,if_neg h]
theorem zh8:∀ (l:List IOp) (k i:Nat) (io:IOp),l[i]?=some io→(ziR k l)[i]?=some { io with prim:=io.prim.rank (k+i) }
 | [],_,_,_,h=>by simp at h
 | x::l,k,i,io,h=>by
  cases i with
  | zero=>simp at h; subst h; simp [ziR]
  | succ i =>
   simp at h
   have:=zh8 l (k+1) i io h
   simp only [ziR,List.getElem?_cons_succ,this]
   rw [show k+1+i=k+(i+1) by omega]
theorem zh9:∀ (l:List IOp) (k:Nat),(ziR k l).length=l.length
 | [],_=>rfl
 | x::l,k=>by simp [ziR,zh9 l (k+1)]
def zx8 (ro:Nat) (K0:Ctx) (H0:GH) (nt:Nat) (n:Nat) (fresh:Nat→Prop) (s:St) (a:Act) (w:World):Prop :=
 ∃ K lam,Sim ro K0 H0 nt ⟨⟨s.e.s,s.e.gen+n⟩,s.H⟩ a w K lam∧∀ k,k<n→fresh k→lam (s.e.gen+k)=none
theorem SimS.d {s:St} {a:Act} {w:World} (h:SimS ro K0 H0 nt s a w) (n:Nat) (fresh:Nat→Prop):zx8 ro K0 H0 nt n fresh s a w:=by
 obtain ⟨K,lam,hs⟩:=h
 refine ⟨K,lam,⟨hs.w,hs.hr,{ hs.fr with gen:=fun m hm=>hs.fr.gen m (by simp only at hm; omega) },hs.ext,hs.new,hs.bo,hs.bt⟩,fun k _ _=>hs.fr.gen _ (by omega)⟩
theorem zvY {call:Nat→List GV→GH→Option (GV × GH)} (hpc:zcG hp call) {io:IOp} {k:Option AK} {i:Nat} {s s':St} (h:gop call { io with ak:=k,prim:=(zmK hp io.prim).rank i } s=some s') :
 (zbm s.e io.guard=some false∧s'={ s with e:=s.e.put io.dst (.tup []) }) ∨
 (zbm s.e io.guard=some true∧io.prim.isK=false∧∃ f,zao call io.prim (io.args.map (zac s.e)) ⟨s.e.s,s.e.gen+i⟩ s.H=some f∧s'=f.onB s.e.gen io.dst s):=by
 unfold gop at h
 simp only at h
 cases hg:zbm s.e io.guard with
 | none=>simp only [hg] at h; cases h
 | some b =>
  cases b with
  | false=>simp only [hg] at h; injection h with h; exact .inl ⟨rfl,h.symm⟩
  | true =>
   simp only [hg] at h
   split at h
   ·simp only [Option.map_eq_some_iff] at h
    obtain ⟨f,hf,rfl⟩:=h
    rw [zs0] at hf
    obtain ⟨h0,n',h1,h2⟩:=zsZ (zsY hpc hf)
    refine .inr ⟨rfl,h0,_,h1, ?_⟩
    simp only [Eff.onB]
    rw [← h2]
   ·cases h
theorem zb1 (a:Array Bool) (i j:Nat) (hi:i<a.size) (d:Bool):(a.setIfInBounds i true).getD j d=if j=i then true else a.getD j d:=by
 by_cases h:j=i
 ·subst h; simp [hi]
 ·simp [h,Array.getElem?_setIfInBounds_ne (Ne.symm h)]
theorem zxc (f:Eff) (B B' m:Nat) (d:Option Nat) (s:St):f.onB B d ⟨⟨s.e.s,m⟩,s.H⟩=⟨⟨(f.onB B' d s).e.s,B⟩,(f.onB B' d s).H⟩:=by
 obtain ⟨v,b,H,g⟩:=f
 cases d <;> (cases b <;> rfl)
theorem zn5 {call:Nat→List GV→GH→Option (GV × GH)} (hpc:zcG hp call) (hcall:zbe P ro call) (hk:zbr call) {o:Oper} {ops:Array Oper} {a:Act} {w:World} {n i:Nat} {fresh:Nat→Prop} {s s':St} {io:IOp} {k:Option AK} (hs:zx8 ro K0 H0 nt n fresh s a w) (hρ:∀ b,K0.ρ b→b<K0.w.heap.size)
 (hc:zkz P ro hp nt ops.toList o=some io) (hbox:io.prim.isBox=true→i<n) (hfi:fresh i) (hg:gop call { io with ak:=k,prim:=(zmK hp io.prim).rank i } s=some s') {next:Act→World→Prop} {Q:Exit→Act→World→Prop}
 (hn:∀ a' w',zx8 ro K0 H0 nt n (fun m=>fresh m∧m≠i) s' a' w'→next a' w') :
 if Region.wanted o (yielded ops a.tmps) then o.wp P a w next Q∨(o.asks P a w∧LetsOut Q) else next (a.put o.dst undef) w:=by
 obtain ⟨p,srcs,_,h1,h2,h3,h4,h5,h6⟩:=zn3 hc
 obtain ⟨K,lam,hsim,hfr⟩:=hs
 rcases zvY hpc hg with ⟨hw,rfl⟩ | ⟨hw,hnk,f,hf,rfl⟩
 ·rw [zeE ⟨K,lam,hsim⟩ h6 hw]
  rw [h4] at hn
  refine hn _ _ ⟨K,lam, ?_,fun m hm hf=>?_⟩
  ·have:=zlu hsim h5
   cases hd:o.dst <;> rw [hd] at this <;> exact this
  ·have:=hfr m hm hf.1
   cases hd:o.dst <;> exact this
 ·rw [zeE ⟨K,lam,hsim⟩ h6 hw]
  rw [h2,h3] at hf
  rw [h4] at hn
  rw [h2] at hnk
  rcases zn4 h1 with hc' | rfl
  ·refine .inl ?_
   by_cases hb:p.isBox=true
   ·have hin:i<n:=hbox (by rw [h2]; exact hb)
    refine zm0 (call:=call) hcall hk hsim hρ (B:=s.e.gen+n) (g:=s.e.gen+i) (Nat.le_refl _) (hfr i hin hfi) (fun _=>by omega) hc' h5 hf (fun a' w' K' lam' q1 q2=>hn a' w' ⟨K',lam', ?_,fun m hm hf=>?_⟩)
    ·rw [zxc (B':=s.e.gen)] at q1; exact q1
    ·have:lam' (s.e.gen+m)=lam (s.e.gen+m):=q2 _ (by have:=hf.2; omega)
     exact this.trans (hfr m hm hf.1)
   ·have hb':p.isBox=false:=by simpa using hb
    have hf':=(zkg hb' hnk _ (s.e.gen+n) hf).1
    refine zm0 (call:=call) hcall hk hsim hρ (B:=s.e.gen+n) (g:=s.e.gen+n) (Nat.le_refl _) (hsim.fr.gen _ (Nat.le_refl _)) (fun h=>absurd h hb) hc' h5 hf' (fun a' w' K' lam' q1 q2=>hn a' w' ⟨K',lam', ?_,fun m hm hf=>?_⟩)
    ·rw [zxc (B':=s.e.gen)] at q1; exact q1
    ·have:lam' (s.e.gen+m)=lam (s.e.gen+m):=q2 _ (by omega)
     exact this.trans (hfr m hm hf.1)
  ·simp [zao,zaF] at hf
theorem zvZ {call:Nat→List GV→GH→Option (GV × GH)} (hpc:zcG hp call) (hcall:zbe P ro call) (hk:zbr call) (hρ:∀ b,K0.ρ b→b<K0.w.heap.size) {ops:Array Oper} {ios:List IOp} {prec:List (List Nat)} {ord:List Nat}
 {n:Nat} (hios:∀ (i:Nat) io,ios[i]?=some io→∃ o io0 k,ops[i]?=some o∧zkz P ro hp nt ops.toList o=some io0∧io={ io0 with ak:=k,prim:=(zmK hp io0.prim).rank i }∧(io0.prim.isBox=true→i<n)) (hlen:ios.length=ops.size)
 (hgood:zpr (zbv ops.toList) (fun i=>prec.getD i []) (fun i=>(ios[i]?).bind zdi) [] ord=true) (hall:∀ i,i<ops.size→i∈ord) (hin:∀ i,i∈ord→i<ops.size)
 {s':St} {Q:Exit→Act→World→Prop} (hn:∀ a' w',zx8 ro K0 H0 nt n (fun _=>False) s' a' w'→Q .normal a' w') :
 ∀ (fuel:Nat) (listed:Array Bool) (rem:List Nat) (s:St) (a:Act) (w:World),listed.size=ops.size→rem=ord.filter (fun i=>!listed.getD i true)→rem.length=fuel →
  (∀ y,listed.getD y false=true→∀ x∈prec.getD y [],listed.getD x false=true)→zbC call (rem.filterMap fun i=>ios[i]?) s=some s'→zx8 ro K0 H0 nt n (fun k=>listed.getD k false=false) s a w→wpAny P .any ops Q fuel listed a w:=by
 have dflt:∀ (listed:Array Bool) (i:Nat),listed.size=ops.size→i<ops.size→∀ d d',listed.getD i d=listed.getD i d':=by
  intro listed i h1 h2 d d'
  simp [h1,h2]
 have nil:∀ (listed:Array Bool) (rem:List Nat),listed.size=ops.size→rem=ord.filter (fun i=>!listed.getD i true)→Region.ready .any ops listed=[]→rem=[]:=by
  intro listed rem hsz hrem hr
  cases rem with
  | nil=>rfl
  | cons j rest =>
   exfalso
   obtain ⟨d,r,e,hd,hj,_⟩:=List.filter_eq_cons_iff.1 hrem.symm
   have hjn:j<ops.size:=hin j (by rw [e]; simp)
   obtain ⟨g1,_⟩:=zco ord [] d j r hgood e
   have:j∈Region.ready .any ops listed:=by
    unfold Region.ready
    simp only [List.mem_filter,List.mem_range,Bool.and_eq_true]
    refine ⟨hjn,hj, ?_⟩
    rw [Array.getElem?_eq_getElem hjn]
    simp only [Option.map_some,Option.getD_some,Array.all_eq_true]
    intro k hk'
    by_cases hb:Region.binds .any (ops[j].after[k])=true
    ·simp only [hb,Bool.not_true,Bool.false_or]
     have hx:ops[j].after[k].on∈zbv ops.toList j:=by
      unfold zbv
      simp only [Array.getElem?_toList,Array.getElem?_eq_getElem hjn,List.mem_map,List.mem_filter]
      exact ⟨ops[j].after[k],⟨by simp,hb⟩,rfl⟩
     rcases g1 _ hx with h | h
     ·cases h
     ·have h2:=hd _ h
      simp only [Bool.not_eq_true',Bool.not_eq_false] at h2
      have hlt:ops[j].after[k].on<ops.size:=hin _ (by rw [e]; exact List.mem_append_left _ h)
      rw [dflt listed _ hsz hlt false true]
      simpa using h2
    ·simp [hb]
   rw [hr] at this
   cases this
 intro fuel
 induction fuel with
 | zero =>
  intro listed rem s a w hsz hrem hl hC hg hs
  have h0:rem=[]:=List.length_eq_zero_iff.1 hl
  subst h0
  simp only [List.filterMap_nil,zbC,Option.some.injEq] at hg
  subst hg
  refine ⟨?_,hn _ _ (by obtain ⟨K,lam,h1,_⟩:=hs; exact ⟨K,lam,h1,fun _ _ h=>h.elim⟩)⟩
  unfold Region.ready
  rw [List.filter_eq_nil_iff]
  intro i hi hc
  simp only [List.mem_range,Bool.and_eq_true] at hi hc
  have hm:i∈ord.filter (fun i=>!listed.getD i true):=List.mem_filter.2 ⟨hall i hi,hc.1⟩
  rw [← hrem] at hm
  cases hm
 | succ fuel ih =>
  intro listed rem s a w hsz hrem hl hC hg hs
  refine ⟨fun hr=>?_,fun i hi=>?_⟩
  ·have:=nil listed rem hsz hrem hr
   subst this
   simp at hl
  ·unfold Region.ready at hi
   simp only [List.mem_filter,List.mem_range,Bool.and_eq_true] at hi
   obtain ⟨hin',hnl,hafter⟩:=hi
   rw [Array.getElem?_eq_getElem hin'] at hafter
   simp only [Option.map_some,Option.getD_some,Array.all_eq_true] at hafter
   have hpre:∀ x∈zbv ops.toList i,listed.getD x false=true:=by
    intro x hx
    unfold zbv at hx
    simp only [Array.getElem?_toList,Array.getElem?_eq_getElem hin',List.mem_map,List.mem_filter] at hx
    obtain ⟨e,⟨h1,h2⟩,rfl⟩:=hx
    obtain ⟨k,hk',he⟩:=Array.mem_iff_getElem.1 (Array.mem_toList_iff.1 h1)
    have:=hafter k hk'
    rw [he,h2] at this
    simpa using this
   obtain ⟨d,r,e⟩:=List.append_of_mem (hall i hin')
   obtain ⟨_,_,g3,g4,g5⟩:=zco ord [] d i r hgood e
   have hprec:∀ x∈prec.getD i [],listed.getD x false=true:=by
    intro x hx
    rcases g4 x hx with h | ⟨y,hy,hxy⟩
    ·exact hpre x h
    ·exact hC y (hpre y hy) x hxy
   have hir:i ∉ r:=by
    intro hm
    obtain ⟨r1,r2,er⟩:=List.append_of_mem hm
    obtain ⟨_,_,q,_⟩:=zco ord [] (d++i::r1) i r2 hgood (by rw [e,er]; simp)
    exact q (by simp)
   have hlf:listed.getD i false=false:=by
    rw [dflt listed i hsz hin' false true]
    simpa using hnl
   have hrem1:rem=d.filter (fun i=>!listed.getD i true)++i::r.filter (fun i=>!listed.getD i true):=by
    rw [hrem,e,List.filter_append,List.filter_cons,if_pos hnl]
   have hnew:∀ (l:List Nat),i ∉ l→l.filter (fun j=>!(listed.setIfInBounds i true).getD j true)=l.filter (fun j=>!listed.getD j true):=by
    intro l hil
    apply List.filter_congr
    intro j hj
    rw [zb1 _ _ _ (by rw [hsz]; exact hin'),if_neg (by intro e'; subst e'; exact hil hj)]
   have hrem2:d.filter (fun i=>!listed.getD i true)++r.filter (fun i=>!listed.getD i true)=ord.filter (fun j=>!(listed.setIfInBounds i true).getD j true):=by
    rw [e,List.filter_append,List.filter_cons,if_neg (by rw [zb1 _ _ _ (by rw [hsz]; exact hin'),if_pos rfl]; simp),hnew d g3,hnew r hir]
   obtain ⟨io,hio⟩:∃ io,ios[i]?=some io:=⟨_,List.getElem?_eq_getElem (by rw [hlen]; exact hin')⟩
   have hgo:zbC call (io::((d.filter (fun i=>!listed.getD i true)).filterMap (fun i=>ios[i]?)++(r.filter (fun i=>!listed.getD i true)).filterMap (fun i=>ios[i]?))) s=some s':=by
    rw [← hg,hrem1,List.filterMap_append,List.filterMap_cons,hio]
    refine (zjj _ _ (fun y hy=>?_) s).symm
    obtain ⟨x,hx,hxy⟩:=List.mem_filterMap.1 hy
    obtain ⟨hxd,hxl⟩:=List.mem_filter.1 hx
    have hxn:x<ops.size:=hin x (by rw [e]; exact List.mem_append_left _ hxd)
    rcases g5 x (.inr hxd) with h | h
    ·have:=hprec x h
     rw [dflt listed x hsz hxn false true] at this
     rw [this] at hxl
     cases hxl
    ·simp only [hxy,hio,Option.bind_some,zvL] at h
     split at h
     ·rename_i fy fx h1 h2
      exact ⟨fy,fx,h1,h2,h⟩
     ·cases h
   obtain ⟨o,io0,k,ho,hc,rfl,hbox⟩:=hios i io hio
   simp only [zbC,Option.bind_eq_some_iff] at hgo
   obtain ⟨s1,h1,h2⟩:=hgo
   have hstep:=zn5 (Q:=Q) hpc hcall hk hs hρ hc hbox hlf h1 (next:=wpAny P .any ops Q fuel (listed.setIfInBounds i true)) (fun a' w' hs'=>by
    refine ih (listed.setIfInBounds i true) _ s1 a' w' (by simpa using hsz) hrem2 ?_ ?_ ?_ ?_
    ·rw [hrem1] at hl
     simp only [List.length_append,List.length_cons] at hl ⊢
     omega
    ·intro y hy x hx
     rw [zb1 _ _ _ (by rw [hsz]; exact hin')] at hy ⊢
     by_cases hyi:y=i
     ·subst hyi
      split
      ·rfl
      ·exact hprec x hx
     ·rw [if_neg hyi] at hy
      split
      ·rfl
      ·exact hC y hy x hx
    ·rw [List.filterMap_append]; exact h2
    ·obtain ⟨K,lam,q1,q2⟩:=hs'
     refine ⟨K,lam,q1,fun m hm hf=>q2 m hm ?_⟩
     have hf2:(listed.setIfInBounds i true).getD m false=false:=hf
     rw [zb1 _ _ _ (by rw [hsz]; exact hin')] at hf2
     by_cases hmi:m=i
     ·rw [if_pos hmi] at hf2; cases hf2
     ·rw [if_neg hmi] at hf2; exact ⟨hf2,hmi⟩)
   unfold wpOp
   rw [ho]
   exact hstep
def Ctx.drew (K:Ctx) (d:Nat):Ctx:={ K with w:={ K.w with drawn:=d } }
theorem Ext.drew (K:Ctx) (d bo bt:Nat) (hd:K.w.drawn≤d):Ext (fun _=>False) bo bt K (K.drew d) :=
 { N:=rfl,nO:=Nat.le_refl _,size:=Nat.le_refl _,tape:=rfl,os:=rfl,output:=rfl,drawn:=fun _=>hd,φ:=fun _ _ _ h=>h,κ:=fun _ _=>rfl,imm:=fun _ _ h=>⟨h,rfl⟩,loc:=fun _ h=>⟨h,fun _=>rfl⟩,below:=fun _ _=>rfl,
   tok:=fun _ p h=>⟨p,h,Nat.le_refl _,fun _=>rfl⟩,prot:=fun _ _ _=>⟨rfl,fun _ _=>rfl⟩,protT:=fun _ _ _=>⟨rfl,rfl,fun _ _=>rfl⟩ }
theorem zn6 {s:St} {a:Act} {w:World} (h:SimS ro K0 H0 nt s a w) (d:Nat) (hd:w.drawn≤d):SimS ro K0 H0 nt s a { w with drawn:=d }:=by
 obtain ⟨K,lam,hs⟩:=h
 have x:=Ext.drew K d H0.bo H0.bt (by rw [hs.w]; exact hd)
 refine ⟨K.drew d,lam,by rw [← hs.w]; rfl, ?_, ?_,hs.ext.trans x (fun _ _ h=>h.elim),hs.new,hs.bo,hs.bt⟩
 ·exact
   { nO:=hs.hr.nO,toks:=hs.hr.toks,bo:=hs.hr.bo,bt:=hs.hr.bt,
     obj:=by
      intro id o ho
      have:=hs.hr.obj id o ho
      cases o with
      | cells t cs =>
       obtain ⟨b,vs,elem,fr,h1,h2,h3,h4,h5⟩:=this
       exact ⟨b,vs,elem,fr,h1,h2,h3,h4,fun i c v hc hv=>(h5 i c v hc hv).ext x⟩
      | row t cs =>
       obtain ⟨hidn,hro,b,vs,h1,h2,h3,h4,h5⟩:=this
       exact ⟨hidn,hro,b,vs,h1,h2,h3,h4,fun i c v hc hv=>(h5 i c v hc hv).ext x⟩
      | map ag ls es =>
       obtain ⟨hw,b,ents,clock,h1,h2,h3,es',h4,h5,h6⟩:=this
       exact ⟨hw,b,ents,clock,h1,h2,h3,es',h4,h5,fun i p m hp hm=>⟨(h6 i p m hp hm).1.ext x,(h6 i p m hp hm).2.ext x⟩⟩
      | dead=>trivial
     inj:=hs.hr.inj,dom:=hs.hr.dom,glob:=hs.hr.glob,roN:=hs.hr.roN,tok:=hs.hr.tok,tinj:=hs.hr.tinj,size:=hs.hr.size,loc:=hs.hr.loc,dat:=hs.hr.dat }
 ·exact hs.fr.step (f:=⟨.junk,none,s.H,s.e.gen⟩) (m:=none) (B:=s.e.gen) (rv:=undef) (dst:=none) x (fun _ _ h=>h) (fun n b h=>hs.fr.lamρ n b h) hs.fr.linj (fun n hn=>hs.fr.gen n hn) (fun n b h _=>rfl) (fun d h=>by cases h) trivial
   (fun n hn=>hn.elim) (fun n h=>by cases h) (fun s g h=>by cases h)
theorem zdb {α β:Type} {f:α→Option β} : ∀ {l:List α} {r:List β},l.mapM f=some r→l.filterMap f=r
 | [],r,h=>by simpa using h
 | x::l,r,h=>by
  simp only [List.mapM_cons,Option.bind_eq_bind,Option.bind_eq_some_iff,Option.pure_def,Option.some.injEq] at h
  obtain ⟨y,h1,r',h2,rfl⟩:=h
  rw [List.filterMap_cons,h1,zdb h2]
theorem zv0 (hm:P.follows .mixedOrders=true) {call:Nat→List GV→GH→Option (GV × GH)} (hpc:zcG hp call) (hcall:zbe P ro call) (hk:zbr call) (hρ:∀ b,K0.ρ b→b<K0.w.heap.size) {ops:Array Oper} {s s':St} {a:Act} {w:World} {Q:Exit→Act→World→Prop}
 {ios:List IOp} {n:Nat} (hn:∀ a' w',SimS ro K0 H0 nt ⟨⟨s'.e.s,s'.e.gen+n⟩,s'.H⟩ a' w'→Q .normal a' w') (hc:zsA P ro hp nt ops.toList=some (ios,n)) (hg:zbC call ios s=some s') (hs0:SimS ro K0 H0 nt s a w) {id:Nat} :
 (Code.region id ops true).wp P Q a w:=by
 have hs:=zn6 hs0 (w.drawn+1) (Nat.le_succ _)
 unfold zsA at hc
 simp only [Option.bind_eq_some_iff] at hc
 obtain ⟨ios0,h0,hc⟩:=hc
 split at hc
 case isFalse=>cases hc
 rename_i hgood
 simp only [Option.map_eq_some_iff,Prod.mk.injEq] at hc
 obtain ⟨l,hc,rfl,rfl⟩:=hc
 simp only [zmL,Bool.and_eq_true,beq_iff_eq,List.all_eq_true,List.mem_range] at hgood
 obtain ⟨⟨g1,g2⟩,g3⟩:=hgood
 obtain ⟨m1,m2⟩:=zcB h0
 obtain ⟨a1,a2⟩:=zgB (P:=P) (hp:=hp) ops.toList ops.toList ios0 m1
 have a3:=zh9 (zdU P hp ops.toList ops.toList ios0) 0
 have hmf:=zdb hc
 obtain ⟨m3,m4⟩:=zcB hc
 have hin:∀ i,i∈Region.linearise .any ops 0→i<ops.size:=by
  intro i hi
  obtain ⟨k,hk',e⟩:=List.mem_iff_getElem.1 hi
  have hk2:k<l.length:=by rw [m3]; exact hk'
  have:=m4 k i l[k] (by show (Region.linearise .any ops 0)[k]?=_; rw [List.getElem?_eq_getElem hk',e]) (List.getElem?_eq_getElem hk2)
  have:=(List.getElem?_eq_some_iff.1 this).1
  rw [a3,a1] at this
  simpa using this
 refine wp_region_any hm (zvZ (hp:=hp) (n:=zjk ios0) hpc hcall hk hρ (ios:=ziR 0 (zdU P hp ops.toList ops.toList ios0)) (ord:=Region.linearise .any ops 0) (fun i io hio=>?_) (by rw [a3,a1]; simp) g1 (fun i hi=>by simpa using g3 i (by simpa using hi)) hin
  (fun a' w' h=>by obtain ⟨K,lam,h1,_⟩:=h; exact hn a' w' ⟨K,lam,h1⟩) ops.size _ (Region.linearise .any ops 0) s a _ (by simp) ?_ ?_ ?_ ?_ (hs.d _ _))
 ·have hi:i<ops.size:=by
   have:=(List.getElem?_eq_some_iff.1 hio).1
   rw [a3,a1] at this; simpa using this
  have hi0:i<ios0.length:=by rw [m1]; simpa using hi
  have ho:ops.toList[i]?=some ops[i]:=by simp [hi]
  have:=zh8 _ 0 i _ (a2 i _ _ ho (List.getElem?_eq_getElem hi0))
  rw [this] at hio
  injection hio with hio
  refine ⟨ops[i],ios0[i],cAk P hp ops.toList ops[i],Array.getElem?_eq_getElem hi,m2 i _ _ ho (List.getElem?_eq_getElem hi0), ?_,fun hb=>?_⟩
  ·rw [← hio]
   simp only [Nat.zero_add]
  ·unfold zjk
   rw [if_pos]
   ·exact hi0
   ·rw [List.any_eq_true]; exact ⟨_,List.getElem_mem hi0,hb⟩
 ·symm
  rw [List.filter_eq_self]
  intro i hi
  simp [hin i hi]
 ·simpa using g2
 ·intro y hy
  exfalso
  by_cases hy':y<ops.size <;> simp [hy'] at hy
 ·rw [show (Region.linearise .any ops 0).filterMap (fun i=>(ziR 0 (zdU P hp ops.toList ops.toList ios0))[i]?)=l from hmf]
  exact hg
end
section
variable {P:Program} {ro:Nat} {hp:List Nat} {K K0:Ctx} {H H0:GH} {lam:Nat→Option Nat} {nt:Nat} {e:Env} {w:World}
theorem zv1 {call:Nat→List GV→GH→Option (GV × GH)} (hpc:zcG hp call) (hcall:zbe P ro call) (hk:zbr call) (hρ:∀ b,K0.ρ b→b<K0.w.heap.size) {ops:Array Oper} {ios:List IOp} {prec:List (List Nat)} {ord:List Nat}
 {n n0 m:Nat} (h0:n0≤ops.size) {pre':Nat→List Nat} (hpre':∀ i,i<n0→pre' i=zbv ops.toList i) (hios:∀ (i:Nat) io,ios[i]?=some io→∃ o io0 k,ops[i]?=some o∧zkz P ro hp nt ops.toList o=some io0∧io={ io0 with ak:=k,prim:=(zmK hp io0.prim).rank i }∧(io0.prim.isBox=true→i<n)) (hlen:ios.length=n0)
 (hgood:zpr pre' (fun i=>prec.getD i []) (fun i=>(ios[i]?).bind zdi) [] ord=true) (hall:∀ i,i<n0→i∈ord) (hin:∀ i,i∈ord→i<n0) (hs1:n0<ops.size→∀ j,j<n0→j∈zbv ops.toList n0) (hs2:∀ i,n0<i→i<ops.size→n0∈zbv ops.toList i)
 {s':St} {Q:Exit→Act→World→Prop} (hn:∀ (listed:Array Bool) a' w',listed.size=ops.size→(∀ j,j<n0→listed.getD j false=true)→(∀ j,n0≤j→listed.getD j false=false)→zx8 ro K0 H0 nt n (fun _=>False) s' a' w'→wpAny P .any ops Q m listed a' w') :
 ∀ (fuel:Nat) (listed:Array Bool) (rem:List Nat) (s:St) (a:Act) (w:World),listed.size=ops.size→(∀ j,n0≤j→listed.getD j false=false)→rem=ord.filter (fun i=>!listed.getD i true)→rem.length=fuel →
  (∀ y,listed.getD y false=true→∀ x∈prec.getD y [],listed.getD x false=true)→zbC call (rem.filterMap fun i=>ios[i]?) s=some s'→zx8 ro K0 H0 nt n (fun k=>listed.getD k false=false) s a w→wpAny P .any ops Q (fuel+m) listed a w:=by
 have dflt:∀ (listed:Array Bool) (i:Nat),listed.size=ops.size→i<ops.size→∀ d d',listed.getD i d=listed.getD i d':=by
  intro listed i h1 h2 d d'
  simp [h1,h2]
 have nil:∀ (listed:Array Bool) (rem:List Nat),listed.size=ops.size→rem=ord.filter (fun i=>!listed.getD i true)→Region.ready .any ops listed=[]→rem=[]:=by
  intro listed rem hsz hrem hr
  cases rem with
  | nil=>rfl
  | cons j rest =>
   exfalso
   obtain ⟨d,r,e,hd,hj,_⟩:=List.filter_eq_cons_iff.1 hrem.symm
   have hjn0:j<n0:=hin j (by rw [e]; simp)
   have hjn:j<ops.size:=by omega
   obtain ⟨g1,_⟩:=zco ord [] d j r hgood e
   have:j∈Region.ready .any ops listed:=by
    unfold Region.ready
    simp only [List.mem_filter,List.mem_range,Bool.and_eq_true]
    refine ⟨hjn,hj, ?_⟩
    rw [Array.getElem?_eq_getElem hjn]
    simp only [Option.map_some,Option.getD_some,Array.all_eq_true]
    intro k hk'
    by_cases hb:Region.binds .any (ops[j].after[k])=true
    ·simp only [hb,Bool.not_true,Bool.false_or]
     have hx:ops[j].after[k].on∈pre' j:=by
      rw [hpre' j hjn0]
      unfold zbv
      simp only [Array.getElem?_toList,Array.getElem?_eq_getElem hjn,List.mem_map,List.mem_filter]
      exact ⟨ops[j].after[k],⟨by simp,hb⟩,rfl⟩
     rcases g1 _ hx with h | h
     ·cases h
     ·have h2:=hd _ h
      simp only [Bool.not_eq_true',Bool.not_eq_false] at h2
      have hlt:ops[j].after[k].on<ops.size:=by have:=hin _ (show ops[j].after[k].on∈ord by rw [e]; exact List.mem_append_left _ h); omega
      rw [dflt listed _ hsz hlt false true]
      simpa using h2
    ·simp [hb]
   rw [hr] at this
   cases this
 intro fuel
 induction fuel with
 | zero =>
  intro listed rem s a w hsz hL hrem hl hC hg hs
  have h0':rem=[]:=List.length_eq_zero_iff.1 hl
  subst h0'
  simp only [List.filterMap_nil,zbC,Option.some.injEq] at hg
  subst hg
  rw [Nat.zero_add]
  refine hn _ _ _ hsz (fun j hj=>?_) hL (by obtain ⟨K,lam,h1,_⟩:=hs; exact ⟨K,lam,h1,fun _ _ h=>h.elim⟩)
  cases hc:listed.getD j false with
  | true=>rfl
  | false =>
   have hm:j∈ord.filter (fun i=>!listed.getD i true):=List.mem_filter.2 ⟨hall j hj,by rw [dflt listed j hsz (by omega) true false,hc]; rfl⟩
   rw [← hrem] at hm
   cases hm
 | succ fuel ih =>
  intro listed rem s a w hsz hL hrem hl hC hg hs
  rw [show fuel+1+m=(fuel+m)+1 by omega]
  refine ⟨fun hr=>?_,fun i hi=>?_⟩
  ·have:=nil listed rem hsz hrem hr
   subst this
   simp at hl
  ·unfold Region.ready at hi
   simp only [List.mem_filter,List.mem_range,Bool.and_eq_true] at hi
   obtain ⟨hin',hnl,hafter⟩:=hi
   rw [Array.getElem?_eq_getElem hin'] at hafter
   simp only [Option.map_some,Option.getD_some,Array.all_eq_true] at hafter
   have hpre:∀ x∈zbv ops.toList i,listed.getD x false=true:=by
    intro x hx
    unfold zbv at hx
    simp only [Array.getElem?_toList,Array.getElem?_eq_getElem hin',List.mem_map,List.mem_filter] at hx
    obtain ⟨e,⟨h1,h2⟩,rfl⟩:=hx
    obtain ⟨k,hk',he⟩:=Array.mem_iff_getElem.1 (Array.mem_toList_iff.1 h1)
    have:=hafter k hk'
    rw [he,h2] at this
    simpa using this
   have hi0:i<n0:=by
    rcases Nat.lt_or_ge i n0 with h | h
    ·exact h
    ·exfalso
     rcases Nat.eq_or_lt_of_le h with h | h
     ·subst h
      have:rem=[]:=by
       rw [hrem,List.filter_eq_nil_iff]
       intro j hj
       have hjl:=hpre j (hs1 hin' j (hin j hj))
       rw [dflt listed j hsz (by have:=hin j hj; omega) true false,hjl]; simp
      rw [this] at hl; cases hl
     ·have:=hpre n0 (hs2 i h hin')
      rw [hL n0 (Nat.le_refl _)] at this; cases this
   obtain ⟨d,r,e⟩:=List.append_of_mem (hall i hi0)
   obtain ⟨_,_,g3,g4,g5⟩:=zco ord [] d i r hgood e
   have hprec:∀ x∈prec.getD i [],listed.getD x false=true:=by
    intro x hx
    rcases g4 x hx with h | ⟨y,hy,hxy⟩
    ·exact hpre x (by rw [← hpre' i hi0]; exact h)
    ·exact hC y (hpre y (by rw [← hpre' i hi0]; exact hy)) x hxy
   have hir:i ∉ r:=by
    intro hm
    obtain ⟨r1,r2,er⟩:=List.append_of_mem hm
    obtain ⟨_,_,q,_⟩:=zco ord [] (d++i::r1) i r2 hgood (by rw [e,er]; simp)
    exact q (by simp)
   have hlf:listed.getD i false=false:=by
    rw [dflt listed i hsz hin' false true]
    simpa using hnl
   have hrem1:rem=d.filter (fun i=>!listed.getD i true)++i::r.filter (fun i=>!listed.getD i true):=by
    rw [hrem,e,List.filter_append,List.filter_cons,if_pos hnl]
   have hnew:∀ (l:List Nat),i ∉ l→l.filter (fun j=>!(listed.setIfInBounds i true).getD j true)=l.filter (fun j=>!listed.getD j true):=by
    intro l hil
    apply List.filter_congr
    intro j hj
    rw [zb1 _ _ _ (by rw [hsz]; exact hin'),if_neg (by intro e'; subst e'; exact hil hj)]
   have hrem2:d.filter (fun i=>!listed.getD i true)++r.filter (fun i=>!listed.getD i true)=ord.filter (fun j=>!(listed.setIfInBounds i true).getD j true):=by
    rw [e,List.filter_append,List.filter_cons,if_neg (by rw [zb1 _ _ _ (by rw [hsz]; exact hin'),if_pos rfl]; simp),hnew d g3,hnew r hir]
   obtain ⟨io,hio⟩:∃ io,ios[i]?=some io:=⟨_,List.getElem?_eq_getElem (by rw [hlen]; exact hi0)⟩
   have hgo:zbC call (io::((d.filter (fun i=>!listed.getD i true)).filterMap (fun i=>ios[i]?)++(r.filter (fun i=>!listed.getD i true)).filterMap (fun i=>ios[i]?))) s=some s':=by
    rw [← hg,hrem1,List.filterMap_append,List.filterMap_cons,hio]
    refine (zjj _ _ (fun y hy=>?_) s).symm
    obtain ⟨x,hx,hxy⟩:=List.mem_filterMap.1 hy
    obtain ⟨hxd,hxl⟩:=List.mem_filter.1 hx
    have hxn:x<ops.size:=by have:=hin x (by rw [e]; exact List.mem_append_left _ hxd); omega
    rcases g5 x (.inr hxd) with h | h
    ·have:=hprec x h
     rw [dflt listed x hsz hxn false true] at this
     rw [this] at hxl
     cases hxl
    ·simp only [hxy,hio,Option.bind_some,zvL] at h
     split at h
     ·rename_i fy fx h1 h2
      exact ⟨fy,fx,h1,h2,h⟩
     ·cases h
   obtain ⟨o,io0,k,ho,hc,rfl,hbox⟩:=hios i io hio
   simp only [zbC,Option.bind_eq_some_iff] at hgo
   obtain ⟨s1,h1,h2⟩:=hgo
   have hstep:=zn5 (Q:=Q) hpc hcall hk hs hρ hc hbox hlf h1 (next:=wpAny P .any ops Q (fuel+m) (listed.setIfInBounds i true)) (fun a' w' hs'=>by
    refine ih (listed.setIfInBounds i true) _ s1 a' w' (by simpa using hsz) (fun j hj=>by rw [zb1 _ _ _ (by rw [hsz]; exact hin'),if_neg (by omega)]; exact hL j hj) hrem2 ?_ ?_ ?_ ?_
    ·rw [hrem1] at hl
     simp only [List.length_append,List.length_cons] at hl ⊢
     omega
    ·intro y hy x hx
     rw [zb1 _ _ _ (by rw [hsz]; exact hin')] at hy ⊢
     by_cases hyi:y=i
     ·subst hyi
      split
      ·rfl
      ·exact hprec x hx
     ·rw [if_neg hyi] at hy
      split
      ·rfl
      ·exact hC y hy x hx
    ·rw [List.filterMap_append]; exact h2
    ·obtain ⟨K,lam,q1,q2⟩:=hs'
     refine ⟨K,lam,q1,fun m hm hf=>q2 m hm ?_⟩
     have hf2:(listed.setIfInBounds i true).getD m false=false:=hf
     rw [zb1 _ _ _ (by rw [hsz]; exact hin')] at hf2
     by_cases hmi:m=i
     ·rw [if_pos hmi] at hf2; cases hf2
     ·rw [if_neg hmi] at hf2; exact ⟨hf2,hmi⟩)
   unfold wpOp
   rw [ho]
   exact hstep
theorem zs1 {ops:Array Oper} {listed:Array Bool} {i:Nat} (hi:i∈Region.ready .any ops listed):i<ops.size∧listed.getD i true=false∧∀ x∈zbv ops.toList i,listed.getD x false=true:=by
 unfold Region.ready at hi
 simp only [List.mem_filter,List.mem_range,Bool.and_eq_true] at hi
 obtain ⟨hin',hnl,hafter⟩:=hi
 rw [Array.getElem?_eq_getElem hin'] at hafter
 simp only [Option.map_some,Option.getD_some,Array.all_eq_true] at hafter
 refine ⟨hin',by simpa using hnl,fun x hx=>?_⟩
 unfold zbv at hx
 simp only [Array.getElem?_toList,Array.getElem?_eq_getElem hin',List.mem_map,List.mem_filter] at hx
 obtain ⟨e,⟨h1,h2⟩,rfl⟩:=hx
 obtain ⟨k,hk',he⟩:=Array.mem_iff_getElem.1 (Array.mem_toList_iff.1 h1)
 have:=hafter k hk'
 rw [he,h2] at this
 simpa using this
theorem zs2 {ops:Array Oper} {listed:Array Bool} {i:Nat} (hin:i<ops.size) (hl:listed.getD i true=false) (hp:∀ x∈zbv ops.toList i,listed.getD x false=true):i∈Region.ready .any ops listed:=by
 unfold Region.ready
 simp only [List.mem_filter,List.mem_range,Bool.and_eq_true]
 refine ⟨hin,by simpa using hl, ?_⟩
 rw [Array.getElem?_eq_getElem hin]
 simp only [Option.map_some,Option.getD_some,Array.all_eq_true]
 intro k hk'
 by_cases hb:Region.binds .any (ops[i].after[k])=true
 ·simp only [hb,Bool.not_true,Bool.false_or]
  have hx:ops[i].after[k].on∈zbv ops.toList i:=by
   unfold zbv
   simp only [Array.getElem?_toList,Array.getElem?_eq_getElem hin,List.mem_map,List.mem_filter]
   exact ⟨ops[i].after[k],⟨by simp,hb⟩,rfl⟩
  simpa using hp _ hx
 ·simp [hb]
theorem HR.bo_set {K:Ctx} {H:GH} (hr:HR ro K H) (bo:Nat) (h:ro≤bo):HR ro K { H with bo:=bo }:=⟨hr.nO,hr.toks,h,hr.bt,hr.obj,hr.inj,hr.dom,hr.glob,hr.roN,hr.tok,hr.tinj,hr.size,hr.loc,hr.dat⟩
theorem Sim.eff {s:St} {a:Act} {w:World} {K:Ctx} {lam:Nat→Option Nat} (hs:Sim ro K0 H0 nt s a w K lam) {K':Ctx} {H':GH} (hr':HR ro K' H') (hx:Ext (fun _=>False) s.H.bo s.H.bt K K') (hb:H'.bo=s.H.bo∧H'.bt=s.H.bt) {dst:Option Nat} (hd:∀ d,dst=some d→d<nt) {g:GV} {v:Value} (hv:SR K' lam g v) (hp:zmN g) :
 Sim ro K0 H0 nt ⟨⟨(s.e.put dst g).s,s.e.gen⟩,H'⟩ (a.put dst v) K'.w K' lam:=by
 refine ⟨rfl,hr', ?_,hs.ext.trans (by rw [← hs.bo,← hs.bt]; exact hx) (fun _ _ (h:False)=>h.elim),hs.new,hb.1.trans hs.bo,hb.2.trans hs.bt⟩
 have:=hs.fr.step (f:=⟨g,none,H',s.e.gen⟩) (m:=none) (B:=s.e.gen) (rv:=v) (dst:=dst) hx (fun _ _ h=>h) (fun n b h=>(hx.loc b (hs.fr.lamρ n b h)).1) hs.fr.linj (fun n hn=>hs.fr.gen n hn) (fun n b h _=>(hx.loc b (hs.fr.lamρ n b h)).2 (fun h=>h.elim)) hd hv
  (fun n hn=>absurd hn (hp n)) (fun n h=>by cases h) (fun s g h=>by cases h)
 cases dst <;> exact this
theorem Sim.junk {s:St} {a:Act} {w:World} {K:Ctx} {lam:Nat→Option Nat} (hs:Sim ro K0 H0 nt s a w K lam) {l:List GV} (h:∀ t,zag l t=zag s.e.s t∨zag l t=.junk):Sim ro K0 H0 nt ⟨⟨l,s.e.gen⟩,s.H⟩ a w K lam:=by
 refine ⟨hs.w,hs.hr,⟨hs.fr.size,hs.fr.defers,fun t=>?_,hs.fr.lamρ,hs.fr.linj,hs.fr.gen,fun t t' n h1 h2=>?_⟩,hs.ext,hs.new,hs.bo,hs.bt⟩
 ·show SR K lam (zag l t) _
  rcases h t with h | h
  ·rw [h]; exact hs.fr.slot t
  ·rw [h]; trivial
 ·simp only at h1 h2
  rcases h t with e | e <;> rw [e] at h1
  ·rcases h t' with e' | e' <;> rw [e'] at h2
   ·exact hs.fr.one t t' n h1 h2
   ·exact h2.elim
  ·exact h1.elim
structure EMid (ro:Nat) (K0:Ctx) (H0:GH) (nt:Nat) (l0:List GV) (gen:Nat) (H2 H3:GH) (d0 d1 d2 d3 m k id b:Nat) (kv:Value) (ents:Array MapEntry) (clock:Nat) (v v2:GV) (born:Nat) (x0 x1 ap:Bool) (a:Act) (w:World):Prop where
 ex:∃ K lam s,Sim ro K0 H0 nt s a w K lam∧s.H=(if ap then H3 else H2)∧s.e.gen=gen∧(∀ t,t≠d0→t≠d1→t≠d2→t≠d3→zag s.e.s t=zag l0 t)∧zag s.e.s d0=.tup [v,.int .i64 born]∧(x0=true→zag s.e.s d1=v)∧(x1=true→zag s.e.s d3=.int .i64 born)∧(ap=true→zag s.e.s d2=v2) ∧
  K.φ id=some b∧w.heap[b]?=some (.map ents clock)∧a.tmps.getD k undef=kv∧a.tmps.getD m undef=.map (some b)
theorem zgS (a:Act) {d t:Nat} (h:t≠d) (v:Value):(a.put (some d) v).tmps.getD t undef=a.tmps.getD t undef:=by
 show (a.tmps.setIfInBounds d v).getD t undef=_
 simp [Array.getD_eq_getD_getElem?,Array.getElem?_setIfInBounds,Ne.symm h]
theorem zeF {e:Env} {t:Nat} {g:GV} (h:zag e.s t=g) (hg:g.ok=true):zac e (.slot t)=g:=by
 unfold zac
 simp only [h]
 cases g <;> first | rfl | simp [GV.ok] at hg
section
variable {l0:List GV} {gen:Nat} {H2 H3:GH} {d0 d1 d2 d3 m k id b:Nat} {kv:Value} {ents:Array MapEntry} {clock:Nat} {v v2:GV} {born:Nat} {x0 x1 ap:Bool} {a:Act} {next:Act→World→Prop} {Q:Exit→Act→World→Prop} {o:Oper}
theorem EMid.ext0 (h:EMid ro K0 H0 nt l0 gen H2 H3 d0 d1 d2 d3 m k id b kv ents clock v v2 born x0 x1 ap a w) (hv:v.ok=true) (hne:(d0≠d1∧d2≠d1∧d3≠d1)∧k≠d1∧m≠d1) (hd:d1<nt) (ho:o.op=.extract (.tmp d0) 0) (hdst:o.dst=some d1)
 (hn:∀ a' w',EMid ro K0 H0 nt l0 gen H2 H3 d0 d1 d2 d3 m k id b kv ents clock v v2 born true x1 ap a' w'→next a' w'):o.wp P a w next Q:=by
 obtain ⟨K,lam,s,hs,e1,e2,e3,e4,e5,e6,e7,e8,e9,e10,e11⟩:=h
 have hg:zaF (.extract 0) [zac s.e (.slot d0)]=some v:=by rw [zeF e4 rfl]; rfl
 obtain ⟨rv,r1,r2,r3⟩:=zgx (P:=P) hs.hr hs.fr ho (x:=.tmp d0) (s:=.slot d0) rfl hg
 have hw:=hs.w
 have sim:=hs.eff hs.hr (Ext.refl _ _ _ _) ⟨rfl,rfl⟩ (dst:=some d1) (fun d h=>by injection h with h; omega) r2 r3
 rw [hw] at r1 sim
 rw [Oper.wp,r1,Oper.upon_value,hdst]
 refine hn _ _ ⟨K,lam,_,sim,e1,e2,fun t h0 h1 h2 h3=>?_, ?_,fun _=>?_,fun h=>?_,fun h=>?_,e8,e9, ?_, ?_⟩
 ·show zag (lput s.e.s d1 v) t=_
  rw [zah,if_neg h1]; exact e3 t h0 h1 h2 h3
 ·show zag (lput s.e.s d1 v) d0=_
  rw [zah,if_neg hne.1.1]; exact e4
 ·show zag (lput s.e.s d1 v) d1=_
  rw [zah,if_pos rfl]
 ·show zag (lput s.e.s d1 v) d3=_
  rw [zah,if_neg hne.1.2.2]; exact e6 h
 ·show zag (lput s.e.s d1 v) d2=_
  rw [zah,if_neg hne.1.2.1]; exact e7 h
 ·rw [zgS _ hne.2.1]; exact e10
 ·rw [zgS _ hne.2.2]; exact e11
theorem EMid.ext1 (h:EMid ro K0 H0 nt l0 gen H2 H3 d0 d1 d2 d3 m k id b kv ents clock v v2 born x0 x1 ap a w) (hne:(d0≠d3∧d1≠d3∧d2≠d3)∧k≠d3∧m≠d3) (hd:d3<nt) (ho:o.op=.extract (.tmp d0) 1) (hdst:o.dst=some d3)
 (hn:∀ a' w',EMid ro K0 H0 nt l0 gen H2 H3 d0 d1 d2 d3 m k id b kv ents clock v v2 born x0 true ap a' w'→next a' w'):o.wp P a w next Q:=by
 obtain ⟨K,lam,s,hs,e1,e2,e3,e4,e5,e6,e7,e8,e9,e10,e11⟩:=h
 have hg:zaF (.extract 1) [zac s.e (.slot d0)]=some (.int .i64 born):=by rw [zeF e4 rfl]; rfl
 obtain ⟨rv,r1,r2,r3⟩:=zgx (P:=P) hs.hr hs.fr ho (x:=.tmp d0) (s:=.slot d0) rfl hg
 have hw:=hs.w
 have sim:=hs.eff hs.hr (Ext.refl _ _ _ _) ⟨rfl,rfl⟩ (dst:=some d3) (fun d h=>by injection h with h; omega) r2 r3
 rw [hw] at r1 sim
 rw [Oper.wp,r1,Oper.upon_value,hdst]
 refine hn _ _ ⟨K,lam,_,sim,e1,e2,fun t h0 h1 h2 h3=>?_, ?_,fun h=>?_,fun _=>?_,fun h=>?_,e8,e9, ?_, ?_⟩
 ·show zag (lput s.e.s d3 _) t=_
  rw [zah,if_neg h3]; exact e3 t h0 h1 h2 h3
 ·show zag (lput s.e.s d3 _) d0=_
  rw [zah,if_neg hne.1.1]; exact e4
 ·show zag (lput s.e.s d3 _) d1=_
  rw [zah,if_neg hne.1.2.1]; exact e5 h
 ·show zag (lput s.e.s d3 _) d3=_
  rw [zah,if_pos rfl]
 ·show zag (lput s.e.s d3 _) d2=_
  rw [zah,if_neg hne.1.2.2]; exact e7 h
 ·rw [zgS _ hne.2.1]; exact e10
 ·rw [zgS _ hne.2.2]; exact e11
theorem EMid.app (hl:laidOutB P=true) (h:EMid ro K0 H0 nt l0 gen H2 H3 d0 d1 d2 d3 m k id b kv ents clock v v2 born true x1 false a w) (hρ:∀ b,K0.ρ b→b<K0.w.heap.size) (hv:v.ok=true) (hne:(d0≠d2∧d1≠d2∧d3≠d2)∧k≠d2∧m≠d2) (hd:d2<nt) {c:Call} {ty sz by_:Nat} {sx:Src} (ho:o.op=.call c) (hdst:o.dst=some d2)
 (hc:zlf P ro false c=some (.append ty sz by_,[.slot d1,sx])) (hsx:∀ s,sx=.slot s→s≠d0∧s≠d1∧s≠d2∧s≠d3) {t':List Nat} (hid:id<H2.objs.length) (hg:zbN H2 ty sz by_ v (zac ⟨l0,gen⟩ sx)=some (v2,t')) (hH3:H3={ H2 with toks:=t' })
 (hn:∀ a' w',EMid ro K0 H0 nt l0 gen H2 H3 d0 d1 d2 d3 m k id b kv ents clock v v2 born true x1 true a' w'→next a' w'):o.wp P a w next Q:=by
 obtain ⟨K,lam,s,hs,e1,e2,e3,e4,e5,e6,e7,e8,e9,e10,e11⟩:=h
 simp only [Bool.false_eq_true,if_false] at e1
 have hsx':zac s.e sx=zac ⟨l0,gen⟩ sx:=by
  cases sx with
  | val g=>rfl
  | slot t =>
   obtain ⟨q0,q1,q2,q3⟩:=hsx t rfl
   unfold zac
   simp only [e3 t q0 q1 q2 q3]
 have hd1:zac s.e (.slot d1)=v:=zeF (e5 rfl) hv
 -- all that lies there is kept
 have hro:ro≤s.H.objs.length:=by rw [hs.hr.nO]; exact hs.hr.roN
 have hrb:=hs.hr.bo_set s.H.objs.length hro
 have hga:zbN { s.H with bo:=s.H.objs.length } ty sz by_ v (zac ⟨l0,gen⟩ sx)=some (v2,t'):=by
  rw [← hg,← e1]; exact zfK (H:=s.H) (H':={ s.H with bo:=s.H.objs.length }) rfl rfl _ _ _ _ _
 obtain ⟨H',g1,g2⟩:=zh7 hga
 have hf:zao (fun _ _ _=>none) (.append ty sz by_) ([Src.slot d1,sx].map (zac s.e)) ⟨s.e.s,s.e.gen⟩ { s.H with bo:=s.H.objs.length }=some ⟨v2,none,H',s.e.gen⟩:=by
  simp only [List.map_cons,List.map_nil,hd1,hsx',zao,g1,Option.map_some]
 have hcop:cOp P ro [] o=some (.append ty sz by_,[.slot d1,sx]):=by
  simp only [cOp,ho]
  have:zhO [] 16777216 o.dst=false:=by rw [hdst]; rfl
  rw [this]; exact hc
 obtain ⟨K',lam',rv,hrun,hr',hx,hl1,hl2,hl3,hfr⟩:=zls (hp:=[]) hl (call:=fun _ _ _=>none) hrb hs.fr (B:=s.e.gen) (Nat.le_refl _) (g:=s.e.gen) (hs.fr.gen _ (Nat.le_refl _)) (fun h=>by cases h) hcop (fun _ _=>rfl) hf
 have hw:=hs.w
 have hlen:s.H.objs.length=K.nO:=hs.hr.nO
 have hxs:Ext (Own lam) s.H.bo s.H.bt K K':={ hx with prot:=fun i h1 h2=>hx.prot i (by show i<s.H.objs.length; rw [hlen]; exact h2) h2 }
 have hprot:=hx.prot id (by show id<s.H.objs.length; rw [e1]; exact hid) (by rw [← hlen,e1]; exact hid)
 have sim:Sim ro K0 H0 nt ⟨⟨lput s.e.s d2 v2,s.e.gen⟩,H3⟩ (a.put (some d2) rv) K'.w K' lam':=by
  have hf2:=hfr (some d2) (fun d h=>by injection h with h; omega)
  refine ⟨rfl, ?_,hf2,hs.ext.trans (by rw [← hs.bo,← hs.bt]; exact hxs) (fun b h1 h2=>?_),fun n b h=>?_, ?_, ?_⟩
  ·have:=hr'.bo_set s.H.bo hs.hr.bo
   have e:({ (⟨v2,none,H',s.e.gen⟩:Eff).H with bo:=s.H.bo } : GH)=H3:=by
    rw [hH3,← e1]
    show ({ H' with bo:=s.H.bo } : GH)=_
    rw [g2]
   rw [e] at this; exact this
  ·obtain ⟨n,hn⟩:=h2
   exact absurd (hs.new n b hn) (Nat.not_le.2 (hρ b h1))
  ·rcases hl2 n b h with h | h
   ·exact hs.new n b h
   ·exact Nat.le_trans hs.ext.size h
  ·rw [hH3]; show H2.bo=_; rw [← e1]; exact hs.bo
  ·rw [hH3]; show H2.bt=_; rw [← e1]; exact hs.bt
 have fin:∀ rv',rv'=rv→next (a.put (some d2) rv') K'.w:=by
  intro rv' hrv
  subst hrv
  refine hn _ _ ⟨K',lam',_,sim,by simp,e2,fun t h0 h1 h2 h3=>?_, ?_,fun h=>?_,fun h=>?_,fun _=>?_,by rw [hprot.1]; exact e8, ?_, ?_, ?_⟩
  ·show zag (lput s.e.s d2 _) t=_
   rw [zah,if_neg h2]; exact e3 t h0 h1 h2 h3
  ·show zag (lput s.e.s d2 _) d0=_
   rw [zah,if_neg hne.1.1]; exact e4
  ·show zag (lput s.e.s d2 _) d1=_
   rw [zah,if_neg hne.1.2.1]; exact e5 h
  ·show zag (lput s.e.s d2 _) d3=_
   rw [zah,if_neg hne.1.2.2]; exact e6 h
  ·show zag (lput s.e.s d2 _) d2=_
   rw [zah,if_pos rfl]
  ·rw [hprot.2 b e8,hw]; exact e9
  ·rw [zgS _ hne.2.1]; exact e10
  ·rw [zgS _ hne.2.2]; exact e11
 rw [← hw]
 rcases hrun with hrun | ⟨hrun,hu⟩
 ·rw [Oper.wp,hrun,Oper.upon_value,hdst]; exact fin _ rfl
 ·rw [Oper.wp,hrun,Oper.upon_skip,hdst]; exact fin _ hu.symm
theorem EMid.fin (hl:laidOutB P=true) (h:EMid ro K0 H0 nt l0 gen H2 H3 d0 d1 d2 d3 m k id b kv ents clock v v2 born true true true a w) (hv2:v2.ok=true) {t t' kt el:TypeId} {ag:Bool} {ls:List Leaf} {kg:GV} {H4:GH} (hu:P.underlying t=some (.map kt el)) (hk:zaY P kt=some (ag,ls)) (hS:zx7 P kt kv ents born)
 (ho:o.op=.entryStore t' (.tmp m) (.tmp d3) (.tmp d2)) (hdst:o.dst=none) (hkn:k≠d0∧k≠d1∧k≠d2∧k≠d3) (hke:zac ⟨l0,gen⟩ (.slot k)=kg) (hko:kg.ok=true) (hg:zbb H3 ag ls (.map id) kg v2=some H4)
 (hn:∀ a' w',(∃ K lam s,Sim ro K0 H0 nt s a' w' K lam∧s.H=H4∧s.e.gen=gen∧(∀ t,t≠d0→t≠d1→t≠d2→t≠d3→zag s.e.s t=zag l0 t)∧zag s.e.s d1=v∧zag s.e.s d2=v2)→next a' w'):o.wp P a w next Q:=by
 obtain ⟨K,lam,s,hs,e1,e2,e3,e4,e5,e6,e7,e8,e9,e10,e11⟩:=h
 simp only [if_true] at e1
 have hw:=hs.w
 have c1:=(zaa hs.hr hs.fr (x:=.tmp k) (s:=.slot k) rfl).1
 have hke':zac s.e (.slot k)=kg:=by
  rw [← hke]; unfold zac; simp only [e3 k hkn.1 hkn.2.1 hkn.2.2.1 hkn.2.2.2]
 rw [hke'] at c1
 have q2:VR K kg kv:=by
  have:=c1.vr hko
  rwa [show a.eval (.tmp k)=kv from e10] at this
 have c2:=(zaa hs.hr hs.fr (x:=.tmp d2) (s:=.slot d2) rfl).1
 rw [zeF (e7 rfl) hv2] at c2
 have q3:=c2.vr hv2
 have c3:=(zaa hs.hr hs.fr (x:=.tmp d3) (s:=.slot d3) rfl).1
 rw [zeF (e6 rfl) rfl] at c3
 have q4:VR K (.int .i64 born) (a.eval (.tmp d3)):=c3
 have e12:a.eval (.tmp d3)=goInt born:=by cases hq:a.eval (.tmp d3) <;> rw [hq] at q4 <;> cases q4; rfl
 rw [← e1] at hg
 obtain ⟨K',r1,r2,r3⟩:=zm1 (t':=t') hl hs.hr hu hk e8 (by rw [hw]; exact e9) hS q2 q3 hg
 have hkeep:=zdL hg
 have sim:=hs.eff r2 r3 ⟨hkeep.1,hkeep.2⟩ (dst:=none) (g:=.junk) (v:=undef) (fun d h=>by cases h) trivial (fun n h=>h)
 have hrun:(execOp a.eval o).run P K.w=.ok .skip K'.w:=by
  have e13:a.eval (.tmp m)=.map (some b):=e11
  simp [execOp,ho,e12,e13,r1]
 rw [hw] at hrun
 rw [Oper.wp,hrun,Oper.upon_skip,hdst]
 exact hn _ _ ⟨K',lam,_,sim,rfl,e2,e3,e5 rfl,e7 rfl⟩
end
structure Done (ops:Array Oper) (n:Nat) (L:Array Bool) (S:List Nat):Prop where
 size:L.size=ops.size
 at_:∀ j,j<ops.size→L.getD j false=(decide (j<n) || S.contains j)
theorem Done.add {ops:Array Oper} {n:Nat} {L:Array Bool} {S:List Nat} (h:Done ops n L S) {i:Nat} (hi:i<ops.size):Done ops n (L.setIfInBounds i true) (i::S):=by
 refine ⟨by simpa using h.size,fun j hj=>?_⟩
 rw [zb1 _ _ _ (by rw [h.size]; exact hi),h.at_ j hj]
 by_cases e:j=i
 ·subst e; simp
 ·simp [e]
theorem Done.ready {ops:Array Oper} {n:Nat} {L:Array Bool} {S:List Nat} (h:Done ops n L S) {i:Nat} (hi:i∈Region.ready .any ops L):n≤i∧i<ops.size∧i ∉ S∧∀ x∈zbv ops.toList i,x<ops.size→x<n∨x∈S:=by
 obtain ⟨h1,h2,h3⟩:=zs1 hi
 have e:L.getD i false=L.getD i true:=by have:=h.size; simp [h1,this]
 rw [← e,h.at_ i h1] at h2
 simp at h2
 refine ⟨h2.1,h1,h2.2,fun x hx hl=>?_⟩
 have:=h3 x hx
 rw [h.at_ x hl] at this
 simpa using this
theorem Done.go {ops:Array Oper} {n:Nat} {L:Array Bool} {S:List Nat} (h:Done ops n L S) {i:Nat} (h1:n≤i) (h2:i<ops.size) (h3:i ∉ S) (hp:∀ x∈zbv ops.toList i,x<ops.size∧(x<n∨x∈S)):i∈Region.ready .any ops L:=by
 refine zs2 h2 ?_ fun x hx=>?_
 ·have e:L.getD i false=L.getD i true:=by have:=h.size; simp [h2,this]
  rw [← e,h.at_ i h2]
  simp; exact ⟨by omega,h3⟩
 ·rw [h.at_ x (hp x hx).1]
  simpa using (hp x hx).2
theorem zdM {ops:Array Oper} {Q:Exit→Act→World→Prop} {f:Nat} {L:Array Bool} {a:Act} {w:World} {i:Nat} (hi:i∈Region.ready .any ops L) (h:∀ i∈Region.ready .any ops L,wpOp P ops Q i (wpAny P .any ops Q f (L.setIfInBounds i true)) a w):wpAny P .any ops Q (f+1) L a w :=
 ⟨(fun e=>by rw [e] at hi; cases hi),h⟩
theorem zkh {ops:Array Oper} {Q:Exit→Act→World→Prop} {a:Act} {w:World} {i:Nat} {o:Oper} {X:Act→World→Prop} (ho:ops[i]?=some o) (hg:o.guard=none) (h:o.wp P a w X Q):wpOp P ops Q i X a w:=by
 unfold wpOp
 simp only [ho]
 have:Region.wanted o (yielded ops a.tmps)=true:=by unfold Region.wanted; rw [hg]
 rw [if_pos this]
 exact .inl h
theorem zcH {H:GH} {ty sz bytes:Nat} {s x v:GV} {t:List Nat} (h:zbN H ty sz bytes s x=some (v,t)):v.ok=true∧(∀ id off len sz' ag,v≠.hsl id off len sz' ag)∧(∀ id off len sz' ag,s≠.hsl id off len sz' ag):=by
 unfold zbN at h
 split at h
 ·cases h
 ·rename_i hs
  simp only [Option.map_eq_some_iff] at h
  obtain ⟨⟨v',H'⟩,h1,h2⟩:=h
  injection h2 with h2 h3
  simp only at h2
  subst h2
  refine ⟨?_, ?_,fun id off len sz' ag=>hs id off len sz' ag⟩
  all_goals
   unfold zaU at h1
   simp only [Option.bind_eq_some_iff] at h1
   obtain ⟨news,_,h1⟩:=h1
   repeat' split at h1
   all_goals first
    | (cases h1; done)
    | (exfalso; exact hs _ _ _ _ _ rfl)
    | (injection h1 with h1; injection h1 with h1 _; subst h1; first | rfl | (intros; intro hc; cases hc))
theorem zeG {call:Nat→List GV→GH→Option (GV × GH)} {d:Option Nat} {p:Prim} {args:List Src} {s s':St} (h:gop call ⟨d,none,p,args,none⟩ s=some s'):∃ f,zao call p (args.map (zac s.e)) s.e s.H=some f∧s'=f.on d s:=by
 simp only [gop,zbm,zqy,if_true,Option.map_eq_some_iff] at h
 obtain ⟨f,h1,h2⟩:=h
 exact ⟨f,h1,h2.symm⟩
theorem zcI {H:GH} {ag:Bool} {ls:List Leaf} {m k v:GV} (hv:∀ id off len sz' ag',v≠.hsl id off len sz' ag'):zdh H ag ls m k v=zbb H ag ls m k v:=by
 unfold zdh
 split
 ·exact absurd rfl (hv _ _ _ _ _)
 ·rfl
theorem zlv (hl:laidOutB P=true) {call:Nat→List GV→GH→Option (GV × GH)} (hρ:∀ b,K0.ρ b→b<K0.w.heap.size) {ops:Array Oper} {n:Nat} {suf:List IOp} (hn5:ops.size=n+5) (hsuf:zdj P ro nt n ops.toList=some suf) {s s':St} {a:Act} {w:World} (hg:zbC call suf s=some s')
 (hs:SimS ro K0 H0 nt s a w) {L:Array Bool} (hD:Done ops n L []) {Q:Exit→Act→World→Prop} (hQ:∀ a' w',SimS ro K0 H0 nt s' a' w'→Q .normal a' w'):wpAny P .any ops Q 5 L a w:=by
 unfold zdj at hsuf
 split at hsuf
 case h_2=>cases hsuf
 rename_i oa ob oc od oe hdrop
 split at hsuf
 case h_2=>cases hsuf
 rename_i t m k x c y t' m' z u q1 q2 q3 q4 q5
 split at hsuf
 case h_2=>cases hsuf
 rename_i d0 d1 d2 d3 p1 p2 p3 p4 p5
 split at hsuf
 case h_2=>cases hsuf
 rename_i kt el ty sz by_ wv sx hu hc
 split at hsuf
 case h_2=>cases hsuf
 rename_i ag ls zv hk hz
 split at hsuf
 case isFalse=>cases hsuf
 rename_i hok
 injection hsuf with hsuf; subst hsuf
 simp only [zmM,hdrop,Bool.and_eq_true,List.all_cons,List.all_nil,beq_iff_eq,bne_iff_ne,decide_eq_true_eq,and_true,Option.isNone_iff_eq_none,List.all_eq_true,List.mem_range,List.contains_iff_mem] at hok
 obtain ⟨⟨⟨⟨⟨⟨⟨⟨⟨⟨g0,g1,g2,g3,g4⟩,⟨⟨⟨⟨i0,i1⟩,i2⟩,i3⟩,i4⟩,i5⟩,⟨a0,a0m,a0k⟩,⟨a1,a1m,a1k⟩,⟨a2,a2m,a2k⟩,a3,a3m,a3k⟩,⟨⟨⟨⟨n01,n02⟩,n03⟩,n12⟩,n13⟩,n23⟩,hsx⟩,r0,r0b⟩,r1,r1b⟩,⟨r2,r2b⟩,r2c⟩,r3,r3b⟩,⟨⟨r4,r4b⟩,r4c⟩,r4d⟩:=hok
 have i0:=i0.symm; subst i0
 have i1:=i1.symm; subst i1
 have i2:=i2.symm; subst i2
 have i3:=i3.symm; subst i3
 have i4:=i4.symm; subst i4
 have i5:=i5.symm; subst i5
 have hsx':∀ s,sx=.slot s→s≠d0∧s≠d1∧s≠d2∧s≠d3:=fun s e=>by
  subst e
  simp only [List.all_cons,List.all_nil,Bool.and_true,Bool.and_eq_true,bne_iff_ne] at hsx
  exact ⟨hsx.1.symm,hsx.2.1.symm,hsx.2.2.1.symm,hsx.2.2.2.symm⟩
 have at_:∀ i,ops[n+i]?=([oa,ob,oc,od,oe]:List Oper)[i]?:=fun i=>by
  rw [← hdrop,List.getElem?_drop,Array.getElem?_toList]
 have oA:ops[n]?=some oa:=at_ 0
 have oB:ops[n+1]?=some ob:=at_ 1
 have oC:ops[n+2]?=some oc:=at_ 2
 have oD:ops[n+3]?=some od:=at_ 3
 have oE:ops[n+4]?=some oe:=at_ 4
 -- the shadow's run
 obtain ⟨⟨l0,gen⟩,H1⟩:=s
 simp only [zbC,Option.bind_eq_some_iff] at hg
 obtain ⟨s1,b1,s2,b2,s3,b3,s4,b4,s5,b5,s6,b6,hg⟩:=hg
 injection hg with hg; subst hg
 obtain ⟨f1,c1,rfl⟩:=zeG b1
 simp only [List.map_cons,List.map_nil,zao,Option.map_eq_some_iff,Bool.false_eq_true,if_false] at c1
 obtain ⟨r,c1,rfl⟩:=c1
 obtain ⟨f2,c2,rfl⟩:=zeG b2
 simp only [List.map_cons,List.map_nil,zao,Option.map_eq_some_iff] at c2
 obtain ⟨H2,c2,rfl⟩:=c2
 obtain ⟨f3,c3,rfl⟩:=zeG b3
 simp only [List.map_cons,List.map_nil,zao,Option.map_eq_some_iff] at c3
 obtain ⟨⟨v2,tk⟩,c3,rfl⟩:=c3
 obtain ⟨f4,c4,rfl⟩:=zeG b4
 simp only [List.map_cons,List.map_nil,zao,Option.map_eq_some_iff] at c4
 obtain ⟨H4,c4,rfl⟩:=c4
 obtain ⟨f5,c5,rfl⟩:=zeG b5
 simp only [List.map_cons,List.map_nil,zao,zaF,Option.map_some,Option.some.injEq] at c5
 subst c5
 obtain ⟨f6,c6,rfl⟩:=zeG b6
 simp only [List.map_cons,List.map_nil,zao,zaF,Option.map_some,Option.some.injEq] at c6
 subst c6
 simp only [Eff.on,Env.box,Env.put] at c2 c3 c4 hQ
 generalize hv:r.getD zv=v at *
 have em:zac ⟨lput l0 d1 v,gen⟩ (.slot m)=zac ⟨l0,gen⟩ (.slot m):=by unfold zac; simp only [zah,if_neg (Ne.symm a1m)]
 have ek:zac ⟨lput l0 d1 v,gen⟩ (.slot k)=zac ⟨l0,gen⟩ (.slot k):=by unfold zac; simp only [zah,if_neg (Ne.symm a1k)]
 have esx:zac ⟨lput l0 d1 v,gen⟩ sx=zac ⟨l0,gen⟩ sx:=by
  cases sx with
  | val g=>rfl
  | slot s=>obtain ⟨_,h1,_,_⟩:=hsx' s rfl; unfold zac; simp only [zah,if_neg h1]
 rw [esx] at c3
 rw [em,ek] at c2
 obtain ⟨v2ok,v2h,d1h⟩:=zcH c3
 rw [zcI d1h] at c2
 have d1ok:(zac ⟨lput l0 d1 v,gen⟩ (.slot d1)).ok=true:=by
  unfold zbb at c2
  split at c2
  ·split at c2
   ·split at c2
    ·rename_i hh; exact hh.2.2.2.1
    ·cases c2
   ·cases c2
  ·cases c2
 have ed1:zac ⟨lput l0 d1 v,gen⟩ (.slot d1)=v:=by
  have:zag (lput l0 d1 v) d1=v:=by rw [zah,if_pos rfl]
  unfold zac at d1ok ⊢
  simp only [this] at d1ok ⊢
  cases v <;> first | rfl | (simp [GV.ok] at d1ok)
 rw [ed1] at c2 c3 d1ok
 have em4:zac ⟨lput (lput l0 d1 v) d2 v2,gen⟩ (.slot m)=zac ⟨l0,gen⟩ (.slot m):=by unfold zac; simp only [zah,if_neg (Ne.symm a1m),if_neg (Ne.symm a2m)]
 have ek4:zac ⟨lput (lput l0 d1 v) d2 v2,gen⟩ (.slot k)=zac ⟨l0,gen⟩ (.slot k):=by unfold zac; simp only [zah,if_neg (Ne.symm a1k),if_neg (Ne.symm a2k)]
 have ed4:zac ⟨lput (lput l0 d1 v) d2 v2,gen⟩ (.slot d2)=v2:=zeF (by show zag (lput _ d2 v2) d2=v2; rw [zah,if_pos rfl]) v2ok
 rw [em4,ek4,ed4,zcI v2h] at c4
 clear b1 b2 b3 b4 b5 b6
 obtain ⟨K,lam,hs⟩:=hs
 have qm:=(zaa hs.hr hs.fr (x:=.tmp m) (s:=.slot m) rfl).1
 have qk:=(zaa hs.hr hs.fr (x:=.tmp k) (s:=.slot k) rfl).1
 generalize hme:zac ⟨l0,gen⟩ (.slot m)=mg at *
 generalize hke:zac ⟨l0,gen⟩ (.slot k)=kg at *
 cases mg <;> simp only [zbb] at c2 <;> try (cases c2; done)
 rename_i id
 have c2':zbb H1 ag ls (.map id) kg v=some H2:=c2
 have hko:kg.ok=true:=by
  split at c2
  ·split at c2
   ·rename_i hh
    have hh:=hh.2.2.1
    cases kg <;> first | rfl | simp [zaA,zat] at hh | (cases ls <;> simp [zaA,zat] at hh)
   ·cases c2
  ·cases c2
 have hvk:=qk.vr hko
 have hvm:VR K (.map id) (a.eval (.tmp m)):=qm
 obtain ⟨b,rv,K',ents,clock,born,e1,e2,e3,e4,e5,e6,e7,e8⟩:=zpK hl hs.hr hu hk hz hvm hvk c1 (by rw [hv]; exact c2')
 rw [hv] at e3
 have hw:=hs.w
 have hkeep:=zdL c2'
 have vtup:VR K' (.tup [v,.int .i64 born]) (.tuple #[rv,goInt born]):=.tup (by simp) (fun j c u hc hu=>by
  match j with
  | 0=>simp at hc hu; subst hc hu; exact e3
  | 1=>simp at hc hu; subst hc hu; exact .int _ _
  | n+2=>simp at hc)
 have sim:=hs.eff e4 e5 ⟨hkeep.1,hkeep.2⟩ (dst:=some d0) (fun d h=>by cases h; exact a0) (SR.of vtup) (zai rfl)
 have hidl:id<H2.objs.length:=by rw [e4.nO]; exact (e4.dom id b e6).1
 have mid0:EMid ro K0 H0 nt l0 gen H2 { H2 with toks:=tk } d0 d1 d2 d3 m k id b (a.eval (.tmp k)) ents clock v v2 born false false false (a.put (some d0) (.tuple #[rv,goInt born])) K'.w:=by
  refine ⟨K',lam,_,sim,by simp,rfl,fun t h0 h1 h2 h3=>?_, ?_,(fun h=>by cases h),(fun h=>by cases h),(fun h=>by cases h),e6,e7, ?_, ?_⟩
  ·show zag (lput l0 d0 _) t=_
   rw [zah,if_neg h0]
  ·show zag (lput l0 d0 _) d0=_
   rw [zah,if_pos rfl]
  ·rw [zgS _ (Ne.symm a0k)]; rfl
  ·rw [zgS _ (Ne.symm a0m)]; exact e1
 have cases5:∀ i,n≤i→i<ops.size→i=n∨i=n+1∨i=n+2∨i=n+3∨i=n+4:=fun i h1 h2=>by omega
 have fin4:∀ (L:Array Bool) (S:List Nat) a' w',Done ops n L S→(∀ i,i∈S↔i=n∨i=n+1∨i=n+2∨i=n+3)→EMid ro K0 H0 nt l0 gen H2 { H2 with toks:=tk } d0 d1 d2 d3 m k id b (a.eval (.tmp k)) ents clock v v2 born true true true a' w'→wpAny P .any ops Q 1 L a' w':=by
  intro L S a' w' hD hS hM
  refine zdM (i:=n+4) (hD.go (by omega) (by omega) (fun h=>by have:=(hS _).1 h; omega) fun x hx=>?_) fun i hi=>?_
  ·have:=r4d x hx
   refine ⟨by omega, ?_⟩
   rw [hS]; omega
  ·obtain ⟨h1,h2,h3,_⟩:=hD.ready hi
   rw [hS] at h3
   obtain rfl:i=n+4:=by have:=cases5 i h1 h2; omega
   refine zkh oE g4 (EMid.fin hl hM v2ok hu hk e8 q5 p5 ⟨Ne.symm a0k,Ne.symm a1k,Ne.symm a2k,Ne.symm a3k⟩ hke hko c4 fun a2 w2 hfin=>?_)
   obtain ⟨K2,lam2,s2,z1,z2,z3,z4,z5,z6⟩:=hfin
   refine ⟨?_,hQ _ _ ⟨K2,lam2, ?_⟩⟩
   ·rw [List.eq_nil_iff_forall_not_mem]
    intro i hi
    obtain ⟨h1,h2,h3,_⟩:=(hD.add (i:=n+4) (by omega)).ready hi
    rw [List.mem_cons,hS] at h3
    have:=cases5 i h1 h2
    omega
   ·have:=z1.junk (l:=lput (lput (lput (lput l0 d1 v) d2 v2) d0 .junk) d3 .junk) fun t=>by
     simp only [zah]
     by_cases t3:t=d3
     ·right; rw [if_pos t3]
     ·by_cases t0:t=d0
      ·right; rw [if_neg t3,if_pos t0]
      ·left
       rw [if_neg t3,if_neg t0]
       by_cases t2:t=d2
       ·rw [if_pos t2,t2,z6]
       ·by_cases t1:t=d1
        ·rw [if_neg t2,if_pos t1,t1,z5]
        ·rw [if_neg t2,if_neg t1,z4 t t0 t1 t2 t3]
    rw [z2,z3] at this
    exact this
 have app3:∀ (L:Array Bool) (S:List Nat) a' w',Done ops n L S→(∀ i,i∈S↔i=n∨i=n+1∨i=n+3)→EMid ro K0 H0 nt l0 gen H2 { H2 with toks:=tk } d0 d1 d2 d3 m k id b (a.eval (.tmp k)) ents clock v v2 born true true false a' w'→wpAny P .any ops Q 2 L a' w':=by
  intro L S a' w' hD hS hM
  refine zdM (i:=n+2) (hD.go (by omega) (by omega) (fun h=>by have:=(hS _).1 h; omega) fun x hx=>?_) fun i hi=>?_
  ·have:=r2c x hx
   refine ⟨by omega, ?_⟩
   rw [hS]; omega
  ·obtain ⟨h1,h2,h3,h4⟩:=hD.ready hi
   rw [hS] at h3
   obtain rfl:i=n+2:=by
    have h5:=cases5 i h1 h2
    rcases Nat.decEq i (n+4) with h | h
    ·omega
    ·subst h
     have:=h4 (n+2) r4b (by omega)
     rw [hS] at this; omega
   exact zkh oC g2 (EMid.app hl hM hρ d1ok ⟨⟨n02,n12,Ne.symm n23⟩,Ne.symm a2k,Ne.symm a2m⟩ a2 q3 p3 hc hsx' hidl c3 rfl fun a2 w2 hM2=>fin4 _ _ _ _ (hD.add (by omega)) (fun i=>by rw [List.mem_cons,hS]; omega) hM2)
 have ext3:∀ (L:Array Bool) (S:List Nat) a' w',Done ops n L S→(∀ i,i∈S↔i=n∨i=n+1∨i=n+2)→EMid ro K0 H0 nt l0 gen H2 { H2 with toks:=tk } d0 d1 d2 d3 m k id b (a.eval (.tmp k)) ents clock v v2 born true false true a' w'→wpAny P .any ops Q 2 L a' w':=by
  intro L S a' w' hD hS hM
  refine zdM (i:=n+3) (hD.go (by omega) (by omega) (fun h=>by have:=(hS _).1 h; omega) fun x hx=>?_) fun i hi=>?_
  ·have:=r3b x hx
   refine ⟨by omega, ?_⟩
   rw [hS]; omega
  ·obtain ⟨h1,h2,h3,h4⟩:=hD.ready hi
   rw [hS] at h3
   obtain rfl:i=n+3:=by
    have h5:=cases5 i h1 h2
    rcases Nat.decEq i (n+4) with h | h
    ·omega
    ·subst h
     have:=h4 (n+3) r4c (by omega)
     rw [hS] at this; omega
   exact zkh oD g3 (EMid.ext1 hM ⟨⟨n03,n13,n23⟩,Ne.symm a3k,Ne.symm a3m⟩ a3 q4 p4 fun a2 w2 hM2=>fin4 _ _ _ _ (hD.add (by omega)) (fun i=>by rw [List.mem_cons,hS]; omega) hM2)
 have mid2a:∀ (L:Array Bool) (S:List Nat) a' w',Done ops n L S→(∀ i,i∈S↔i=n∨i=n+1)→EMid ro K0 H0 nt l0 gen H2 { H2 with toks:=tk } d0 d1 d2 d3 m k id b (a.eval (.tmp k)) ents clock v v2 born true false false a' w'→wpAny P .any ops Q 3 L a' w':=by
  intro L S a' w' hD hS hM
  refine zdM (i:=n+3) (hD.go (by omega) (by omega) (fun h=>by have:=(hS _).1 h; omega) fun x hx=>?_) fun i hi=>?_
  ·have:=r3b x hx
   refine ⟨by omega, ?_⟩
   rw [hS]; omega
  ·obtain ⟨h1,h2,h3,h4⟩:=hD.ready hi
   rw [hS] at h3
   have h6:i=n+2∨i=n+3:=by
    have h5:=cases5 i h1 h2
    rcases Nat.decEq i (n+4) with h | h
    ·omega
    ·subst h
     have:=h4 (n+3) r4c (by omega)
     rw [hS] at this; omega
   rcases h6 with rfl | rfl
   ·exact zkh oC g2 (EMid.app hl hM hρ d1ok ⟨⟨n02,n12,Ne.symm n23⟩,Ne.symm a2k,Ne.symm a2m⟩ a2 q3 p3 hc hsx' hidl c3 rfl fun a2 w2 hM2=>ext3 _ _ _ _ (hD.add (by omega)) (fun i=>by rw [List.mem_cons,hS]; omega) hM2)
   ·exact zkh oD g3 (EMid.ext1 hM ⟨⟨n03,n13,n23⟩,Ne.symm a3k,Ne.symm a3m⟩ a3 q4 p4 fun a2 w2 hM2=>app3 _ _ _ _ (hD.add (by omega)) (fun i=>by rw [List.mem_cons,hS]; omega) hM2)
 have mid2b:∀ (L:Array Bool) (S:List Nat) a' w',Done ops n L S→(∀ i,i∈S↔i=n∨i=n+3)→EMid ro K0 H0 nt l0 gen H2 { H2 with toks:=tk } d0 d1 d2 d3 m k id b (a.eval (.tmp k)) ents clock v v2 born false true false a' w'→wpAny P .any ops Q 3 L a' w':=by
  intro L S a' w' hD hS hM
  refine zdM (i:=n+1) (hD.go (by omega) (by omega) (fun h=>by have:=(hS _).1 h; omega) fun x hx=>?_) fun i hi=>?_
  ·have:=r1b x hx
   refine ⟨by omega, ?_⟩
   rw [hS]; omega
  ·obtain ⟨h1,h2,h3,h4⟩:=hD.ready hi
   rw [hS] at h3
   obtain rfl:i=n+1:=by
    have h5:=cases5 i h1 h2
    rcases Nat.decEq i (n+4) with h | h
    ·rcases Nat.decEq i (n+2) with h' | h'
     ·omega
     ·subst h'
      have:=h4 (n+1) r2b (by omega)
      rw [hS] at this; omega
    ·subst h
     have:=h4 (n+2) r4b (by omega)
     rw [hS] at this; omega
   exact zkh oB g1 (EMid.ext0 hM d1ok ⟨⟨n01,Ne.symm n12,Ne.symm n13⟩,Ne.symm a1k,Ne.symm a1m⟩ a1 q2 p2 fun a2 w2 hM2=>app3 _ _ _ _ (hD.add (by omega)) (fun i=>by rw [List.mem_cons,hS]; omega) hM2)
 have mid1:∀ (L:Array Bool) (S:List Nat) a' w',Done ops n L S→(∀ i,i∈S↔i=n)→EMid ro K0 H0 nt l0 gen H2 { H2 with toks:=tk } d0 d1 d2 d3 m k id b (a.eval (.tmp k)) ents clock v v2 born false false false a' w'→wpAny P .any ops Q 4 L a' w':=by
  intro L S a' w' hD hS hM
  refine zdM (i:=n+1) (hD.go (by omega) (by omega) (fun h=>by have:=(hS _).1 h; omega) fun x hx=>?_) fun i hi=>?_
  ·have:=r1b x hx
   refine ⟨by omega, ?_⟩
   rw [hS]; omega
  ·obtain ⟨h1,h2,h3,h4⟩:=hD.ready hi
   rw [hS] at h3
   have h6:i=n+1∨i=n+3:=by
    have h5:=cases5 i h1 h2
    rcases Nat.decEq i (n+4) with h | h
    ·rcases Nat.decEq i (n+2) with h' | h'
     ·omega
     ·subst h'
      have:=h4 (n+1) r2b (by omega)
      rw [hS] at this; omega
    ·subst h
     have:=h4 (n+2) r4b (by omega)
     rw [hS] at this; omega
   rcases h6 with rfl | rfl
   ·exact zkh oB g1 (EMid.ext0 hM d1ok ⟨⟨n01,Ne.symm n12,Ne.symm n13⟩,Ne.symm a1k,Ne.symm a1m⟩ a1 q2 p2 fun a2 w2 hM2=>mid2a _ _ _ _ (hD.add (by omega)) (fun i=>by rw [List.mem_cons,hS]; omega) hM2)
   ·exact zkh oD g3 (EMid.ext1 hM ⟨⟨n03,n13,n23⟩,Ne.symm a3k,Ne.symm a3m⟩ a3 q4 p4 fun a2 w2 hM2=>mid2b _ _ _ _ (hD.add (by omega)) (fun i=>by rw [List.mem_cons,hS]; omega) hM2)
 refine zdM (i:=n) (hD.go (by omega) (by omega) (by simp) fun x hx=>⟨by have:=r0b x hx; omega,.inl (r0b x hx)⟩) fun i hi=>?_
 obtain ⟨h1,h2,_,h4⟩:=hD.ready hi
 obtain rfl:i=n:=by
  have h5:=cases5 i h1 h2
  have no:∀ j,n∈zbv ops.toList j→i=j→False:=fun j hj e=>by
   subst e
   have:=h4 n hj (by omega)
   simp at this
  have k1:¬ i=n+1:=no (n+1) r1
  have k2:¬ i=n+2:=no (n+2) r2
  have k3:¬ i=n+3:=no (n+3) r3
  have k4:¬ i=n+4:=no (n+4) r4
  omega
 refine zkh oA g0 ?_
 have hrun:(execOp a.eval oa).run P w=.ok (.value (.tuple #[rv,goInt born])) K'.w:=by
  rw [← hw]; simp [execOp,q1,e2]
 rw [Oper.wp,hrun,Oper.upon_value,p1]
 exact mid1 _ _ _ _ (hD.add (by omega)) (fun i=>by simp) mid0
theorem zs3 {l:List Oper} {n:Nat} {o:Oper} {io:IOp} (h:zkz P ro hp nt (l.take n) o=some io):zkz P ro hp nt l o=some io:=by
 unfold zkz at h ⊢
 cases hg:o.guard with
 | none=>simp only [hg] at h ⊢; exact h
 | some q =>
  obtain ⟨j,want⟩:=q
  simp only [hg] at h ⊢
  have e:∀ d,((l.take n)[j]?).bind (·.dst)=some d→(l[j]?).bind (·.dst)=some d:=fun d h=>by
   rw [Option.bind_eq_some_iff] at h ⊢
   obtain ⟨x,h1,h2⟩:=h
   refine ⟨x, ?_,h2⟩
   rw [List.getElem?_take] at h1
   split at h1
   ·exact h1
   ·cases h1
  cases hj:((l.take n)[j]?).bind (·.dst) with
  | none =>
   simp only [hj] at h
   simp at h
  | some d =>
   simp only [hj] at h
   simp only [e d hj]
   exact h
theorem zpN {l:List Oper} {n i:Nat} (h:i<n):zbv (l.take n) i=zbv l i:=by
 unfold zbv
 rw [List.getElem?_take,if_pos h]
theorem zv2 {call:Nat→List GV→GH→Option (GV × GH)} {l l':List IOp} {s s':St} (h:zbC call (l++l') s=some s'):∃ s1,zbC call l s=some s1∧zbC call l' s1=some s':=by
 rw [zmJ,Option.bind_eq_some_iff] at h
 exact h
theorem zx9 {call:Nat→List GV→GH→Option (GV × GH)} {o:IOp} (hb:o.prim.isBox=false) (hk:o.prim.isK=false) {l:List GV} {g:Nat} (g':Nat) {H:GH} {s':St} (h:gop call o ⟨⟨l,g⟩,H⟩=some s'):s'.e.gen=g∧gop call o ⟨⟨l,g'⟩,H⟩=some ⟨⟨s'.e.s,g'⟩,s'.H⟩:=by
 have ev:o.args.map (zac ⟨l,g⟩)=o.args.map (zac ⟨l,g'⟩):=by
  refine List.map_congr_left fun x _=>?_
  cases x <;> rfl
 have gw:zbm ⟨l,g⟩ o.guard=zbm ⟨l,g'⟩ o.guard:=by
  cases o.guard <;> rfl
 unfold gop at h ⊢
 simp only at h ⊢
 rw [gw,ev] at h
 cases hw:zbm ⟨l,g'⟩ o.guard with
 | none=>rw [hw] at h; cases h
 | some q =>
  rw [hw] at h
  cases q with
  | false =>
   simp only at h ⊢
   injection h with h; subst h
   cases o.dst <;> exact ⟨rfl,rfl⟩
  | true =>
   simp only at h ⊢
   split at h
   ·rename_i hak
    rw [if_pos hak]
    simp only [Option.map_eq_some_iff] at h ⊢
    obtain ⟨f,h1,rfl⟩:=h
    obtain ⟨k1,k2⟩:=zkg hb hk g g' h1
    refine ⟨?_,_,k1, ?_⟩
    ·obtain ⟨v,b,H',gg⟩:=f
     cases b <;> cases o.dst <;> exact k2
    ·obtain ⟨v,b,H',gg⟩:=f
     cases b <;> cases o.dst <;> rfl
   ·cases h
theorem zn7 {call:Nat→List GV→GH→Option (GV × GH)} : ∀ {os:List IOp} (_:∀ o∈os,o.prim.isBox=false∧o.prim.isK=false) {l:List GV} {g:Nat} (g':Nat) {H:GH} {s':St},zbC call os ⟨⟨l,g⟩,H⟩=some s'→s'.e.gen=g∧zbC call os ⟨⟨l,g'⟩,H⟩=some ⟨⟨s'.e.s,g'⟩,s'.H⟩
 | [],_,l,g,g',H,s',h=>by
  simp only [zbC,Option.some.injEq] at h; subst h; exact ⟨rfl,rfl⟩
 | o::os,ho,l,g,g',H,s',h=>by
  simp only [zbC,Option.bind_eq_some_iff] at h ⊢
  obtain ⟨s1,h1,h2⟩:=h
  obtain ⟨k1,k2⟩:=zx9 (ho o List.mem_cons_self).1 (ho o List.mem_cons_self).2 g' h1
  obtain ⟨⟨l1,g1⟩,H1⟩:=s1
  simp only at k1; subst k1
  obtain ⟨k3,k4⟩:=zn7 (fun o h=>ho o (List.mem_cons_of_mem _ h)) g' h2
  exact ⟨k3,_,k2,k4⟩
theorem zs4 {P:Program} {ro nt n:Nat} {ops:List Oper} {suf:List IOp} (hsuf:zdj P ro nt n ops=some suf):∀ o∈suf,o.prim.isBox=false∧o.prim.isK=false:=by
 unfold zdj at hsuf
 split at hsuf
 case h_2=>cases hsuf
 split at hsuf
 case h_2=>cases hsuf
 split at hsuf
 case h_2=>cases hsuf
 split at hsuf
 case h_2=>cases hsuf
 split at hsuf
 case h_2=>cases hsuf
 split at hsuf
 case isFalse=>cases hsuf
 injection hsuf with hsuf; subst hsuf
 intro o ho
 simp only [List.mem_cons,List.not_mem_nil,or_false] at ho
 rcases ho with rfl | rfl | rfl | rfl | rfl | rfl <;> exact ⟨rfl,rfl⟩
theorem zlw (hm:P.follows .mixedOrders=true) (hl:laidOutB P=true) {call:Nat→List GV→GH→Option (GV × GH)} (hpc:zcG hp call) (hcall:zbe P ro call) (hk:zbr call) (hρ:∀ b,K0.ρ b→b<K0.w.heap.size) {ops:Array Oper} {s s':St} {a:Act} {w:World} {Q:Exit→Act→World→Prop}
 {ios:List IOp} {n:Nat} (hn:∀ a' w',SimS ro K0 H0 nt ⟨⟨s'.e.s,s'.e.gen+n⟩,s'.H⟩ a' w'→Q .normal a' w') (hc:zsB P ro hp nt ops.toList=some (ios,n)) (hg:zbC call ios s=some s') (hs0:SimS ro K0 H0 nt s a w) {id:Nat} :
 (Code.region id ops true).wp P Q a w:=by
 unfold zsB at hc
 split at hc
 case h_2=>exact zv0 hm hpc hcall hk hρ hn hc hg hs0
 rename_i r hE
 injection hc with hc; subst hc
 unfold zw9 at hE
 split at hE
 case isFalse=>cases hE
 rename_i h5
 simp only [Option.bind_eq_some_iff,Option.map_eq_some_iff,Prod.mk.injEq] at hE
 obtain ⟨suf,hsuf,⟨ios1,n1⟩,hc,rfl,rfl⟩:=hE
 simp only at hg hn
 have hsz5:5≤ops.size:=by simpa using h5
 generalize hN:ops.toList.length - 5=N at *
 have hNs:ops.size=N+5:=by
  have:ops.toList.length=ops.size:=by simp
  omega
 obtain ⟨s1,hg1,hg2⟩:=zv2 hg
 have hs:=zn6 hs0 (w.drawn+1) (Nat.le_succ _)
 unfold zsA at hc
 simp only [Option.bind_eq_some_iff] at hc
 obtain ⟨ios0,h0,hc⟩:=hc
 split at hc
 case isFalse=>cases hc
 rename_i hgood
 simp only [Option.map_eq_some_iff,Prod.mk.injEq] at hc
 obtain ⟨l,hc,rfl,rfl⟩:=hc
 simp only [zmL,Bool.and_eq_true,beq_iff_eq,List.all_eq_true,List.mem_range] at hgood
 obtain ⟨⟨w1,w2⟩,w3⟩:=hgood
 have hlt:(ops.toList.take N).length=N:=by rw [List.length_take]; simp; omega
 obtain ⟨m1,m2⟩:=zcB h0
 obtain ⟨a1,a2⟩:=zgB (P:=P) (hp:=hp) (ops.toList.take N) (ops.toList.take N) ios0 m1
 have a3:=zh9 (zdU P hp (ops.toList.take N) (ops.toList.take N) ios0) 0
 have hmf:=zdb hc
 obtain ⟨m3,m4⟩:=zcB hc
 have hin:∀ i,i∈Region.linearise .any (ops.toList.take N).toArray 0→i<N:=by
  intro i hi
  obtain ⟨k,hk',e⟩:=List.mem_iff_getElem.1 hi
  have hk2:k<l.length:=by rw [m3]; exact hk'
  have:=m4 k i l[k] (by show (Region.linearise .any (ops.toList.take N).toArray 0)[k]?=_; rw [List.getElem?_eq_getElem hk',e]) (List.getElem?_eq_getElem hk2)
  have:=(List.getElem?_eq_some_iff.1 this).1
  rw [a3,a1,hlt] at this
  exact this
 have hok:=hsuf
 have hr:(∀ j,j<N→j∈zbv ops.toList N)∧∀ i,N<i→i<ops.size→N∈zbv ops.toList i:=by
  unfold zdj at hok
  split at hok
  case h_2=>cases hok
  split at hok
  case h_2=>cases hok
  split at hok
  case h_2=>cases hok
  split at hok
  case h_2=>cases hok
  split at hok
  case h_2=>cases hok
  split at hok
  case isFalse=>cases hok
  rename_i hh
  simp only [zmM,Bool.and_eq_true,List.all_eq_true,List.mem_range,List.contains_iff_mem] at hh
  obtain ⟨⟨⟨⟨⟨_,r0,_⟩,r1,_⟩,⟨r2,_⟩,_⟩,r3,_⟩,⟨⟨r4,_⟩,_⟩,_⟩:=hh
  refine ⟨fun j hj=>r0 j hj,fun i h1 h2=>?_⟩
  have:i=N+1∨i=N+2∨i=N+3∨i=N+4:=by omega
  rcases this with rfl | rfl | rfl | rfl
  ·exact r1
  ·exact r2
  ·exact r3
  ·exact r4
 refine wp_region_any hm ?_
 have hfuel:ops.size=N+5:=hNs
 rw [hfuel]
 refine zv1 (hp:=hp) (n:=zjk ios0) (n0:=N) (m:=5) (pre':=zbv (ops.toList.take N)) hpc hcall hk hρ (by omega) (fun i hi=>zpN hi) (ios:=ziR 0 (zdU P hp (ops.toList.take N) (ops.toList.take N) ios0)) (ord:=Region.linearise .any (ops.toList.take N).toArray 0) (fun i io hio=>?_) (by rw [a3,a1,hlt]) w1 (fun i hi=>by simpa using w3 i (by rw [hlt]; exact hi)) hin
  (fun _=>hr.1) hr.2 (s':=s1) (fun L a' w' hL1 hL2 hL3 h=>?_) N _ (Region.linearise .any (ops.toList.take N).toArray 0) s a _ (by simp [hNs]) (fun j hj=>by simp [Array.getD_eq_getD_getElem?,Array.getElem?_replicate]; split <;> rfl) ?_ ?_ ?_ ?_ (hs.d _ _)
 ·have hi:i<N:=by
   have:=(List.getElem?_eq_some_iff.1 hio).1
   rw [a3,a1,hlt] at this; exact this
  have his:i<ops.size:=by omega
  have hi0:i<ios0.length:=by rw [m1,hlt]; exact hi
  have ho:(ops.toList.take N)[i]?=some ops[i]:=by rw [List.getElem?_take,if_pos hi]; simp [his]
  have:=zh8 _ 0 i _ (a2 i _ _ ho (List.getElem?_eq_getElem hi0))
  rw [this] at hio
  injection hio with hio
  refine ⟨ops[i],ios0[i],cAk P hp (ops.toList.take N) ops[i],Array.getElem?_eq_getElem his,zs3 (m2 i _ _ ho (List.getElem?_eq_getElem hi0)), ?_,fun hb=>?_⟩
  ·rw [← hio]
   simp only [Nat.zero_add]
  ·unfold zjk
   rw [if_pos]
   ·exact hi0
   ·rw [List.any_eq_true]; exact ⟨_,List.getElem_mem hi0,hb⟩
 ·obtain ⟨K,lam,h1,_⟩:=h
  obtain ⟨⟨l1,gg⟩,HH⟩:=s1
  obtain ⟨u1,u2⟩:=zn7 (zs4 hsuf) (gg+zjk ios0) hg2
  exact zlv hl hρ hNs hsuf u2 ⟨K,lam,h1⟩ ⟨hL1,fun j hj=>by
   by_cases h:j<N
   ·rw [hL2 j h]; simp [h]
   ·rw [hL3 j (by omega)]; simp [h]⟩ (fun a2 w2 h2=>hn a2 w2 (by rw [u1]; exact h2))
 ·symm
  rw [List.filter_eq_self]
  intro i hi
  have:=hin i hi
  have h':i<N+5:=by omega
  simp [Array.getD_eq_getD_getElem?,Array.getElem?_replicate,h']
 ·rw [w2,hlt]
 ·intro y hy
  exfalso
  simp [Array.getD_eq_getD_getElem?,Array.getElem?_replicate] at hy
  split at hy <;> simp at hy
 ·rw [← hg1]; congr 1
end
end Go.Sh
