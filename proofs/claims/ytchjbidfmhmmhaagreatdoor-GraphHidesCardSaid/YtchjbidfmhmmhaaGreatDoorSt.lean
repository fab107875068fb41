/- Own work: the zaG machine and what it shows, part St. -/
import Derived.Test.YtchjbidfmhmmhaaGreatDoorAl
import Derived.Test.YtchjbidfmhmmhaaGreatDoorRo
set_option linter.all false
namespace Go.Proofs.YtchjbidfmhmmhaaGreatDoor
open Go.Sh
set_option maxHeartbeats 4000000
set_option maxRecDepth 100000
deriving instance DecidableEq for Ent
deriving instance DecidableEq for Evt
def zb2 (S:List Stp) (x:El):List Ent:=((S.find? fun p=>decide (p.1=x)).map (·.2)).getD []
def zqz (S:List Stp) (x:El) (L:List Ent):List Stp:=if L=[] then S.filter fun p=>!decide (p.1=x) else if S.any (fun p=>decide (p.1=x)) then S.map (fun p=>if p.1=x then (x,L) else p) else S++[(x,L)]
def ziq (S:List Stp):Prop:=(S.map (·.1)).Nodup
theorem apart_of {S:List Stp} : zbW cfS S=true↔ziq S:=by
 induction S with
 | nil=>simp [zbW,ziq]
 | cons p S ih =>
  simp only [zbW,Bool.and_eq_true,ih,ziq,List.map_cons,List.nodup_cons,List.all_eq_true,decide_eq_true_eq]
  refine and_congr ⟨fun h hm=>?_,fun h q hq e=>h ?_⟩ .rfl
  ·obtain ⟨q,hq,e⟩:=List.mem_map.1 hm
   exact h q hq (by show zdu p.1 q.1=0; rw [e]; exact ordE_ok.self _)
  ·rw [ordE_ok.zero _ _ e]; exact List.mem_map_of_mem hq
theorem ztU (L:List Ent):zca zkA (L.map zbX)=some L:=by
 induction L with
 | nil=>rfl
 | cons e L ih =>
  have h1:zkA (zbX e)=some e:=by
   show (some ⟨e.r,e.c,e.k,e.n,(mkB e.t).data.toList⟩:Option Ent)=some e
   simp
  rw [List.map_cons,zca,h1,ih]
theorem ztV (x:El):zut (elG x)=some x:=by
 show (some ⟨x.k,(mkB x.a).data.toList,(mkB x.b).data.toList,(mkB x.c).data.toList,(mkB x.d).data.toList⟩:Option El)=some x
 simp
theorem ztW {x:El} {L:List Ent} (hx:ElFit x) (hr:ElRange x) (hne:L≠[]) (hL:L.length≤999999) {v:GV} (hv:Elems 5 v (L.map zbX)):zhb (elG x,v)=some (x,L):=by
 have hb:elB x=true:=by
  simp only [elB,Bool.and_eq_true,decide_eq_true_eq]
  exact ⟨hx.a,hx.b,hx.c,hx.d,hr.k1,hr.k2⟩
 rcases Elems.inv hv with ⟨_,h⟩ | ⟨t,rfl⟩
 ·exact absurd (by simpa using h) hne
 ·simp only [zhb,ztV,ztU,hb]
  simp [hne,hL]
theorem zf6 {p:GV × GV} {b:Stp} (h:zhb p=some b) {x:El} (hx:ElFit x) (hr:ElRange x):zbZ p.1 (elG x)=decide (b.1=x):=by
 obtain ⟨e1,_,o1⟩:=zd2 h
 rw [e1,Bool.eq_iff_iff,zaL (zfE o1.fit o1.range) (zfE hx hr),decide_eq_true_eq]
 exact ⟨zd5,fun h=>by rw [h]⟩
theorem zir {α β:Type} {f:α→Option β} : ∀ {l l':List α} {r r':List β},zca f l=some r→zca f l'=some r'→zca f (l++l')=some (r++r')
 | [],_,r,_,h,h'=>by simp only [zca,Option.some.injEq] at h; subst h; exact h'
 | x::l,l',r,r',h,h'=>by
  simp only [zca] at h
  split at h
  ·rename_i a b ha hb
   injection h with h; subst h
   rw [List.cons_append,zca,ha,zir hb h',List.cons_append]
  ·cases h
section
variable {x:El} (hx:ElFit x) (hr:ElRange x)
include hx hr
theorem ztX:∀ {es:List (GV × GV)} {S:List Stp},zca zhb es=some S→es.any (fun p=>zbZ p.1 (elG x))=S.any fun p=>decide (p.1=x)
 | [],S,h=>by simp only [zca,Option.some.injEq] at h; subst h; rfl
 | p::es,S,h=>by
  simp only [zca] at h
  split at h
  ·rename_i a b ha hb
   injection h with h; subst h
   rw [List.any_cons,List.any_cons,zf6 ha hx hr,ztX hb]
  ·cases h
theorem ztY {L:List Ent} (hne:L≠[]) (hL:L.length≤999999) {v:GV} (hv:Elems 5 v (L.map zbX)):∀ {es:List (GV × GV)} {S:List Stp},zca zhb es=some S→zca zhb (es.map fun p=>if zbZ p.1 (elG x) then (elG x,v) else p)=some (S.map fun p=>if p.1=x then (x,L) else p)
 | [],S,h=>by simp only [zca,Option.some.injEq] at h; subst h; rfl
 | p::es,S,h=>by
  simp only [zca] at h
  split at h
  ·rename_i a b ha hb
   injection h with h; subst h
   rw [List.map_cons,List.map_cons,zca,ztY hne hL hv hb,zf6 ha hx hr]
   by_cases e:a.1=x
   ·simp only [e,decide_true,if_true,ztW hx hr hne hL hv]
   ·simp only [e,decide_false,if_false,ha,Bool.false_eq_true]
  ·cases h
theorem zgH:∀ {es:List (GV × GV)} {S:List Stp},zca zhb es=some S→zca zhb (es.filter fun p=>!zbZ p.1 (elG x))=some (S.filter fun p=>!decide (p.1=x))
 | [],S,h=>by simp only [zca,Option.some.injEq] at h; subst h; rfl
 | p::es,S,h=>by
  simp only [zca] at h
  split at h
  ·rename_i a b ha hb
   injection h with h; subst h
   rw [List.filter_cons,List.filter_cons,zf6 ha hx hr]
   by_cases e:a.1=x
   ·simp only [e,decide_true,Bool.not_true,Bool.false_eq_true,if_false]; exact zgH hb
   ·simp only [e,decide_false,Bool.not_false,if_true]; rw [zca,ha,zgH hb]
  ·cases h
theorem ztZ:∀ {es:List (GV × GV)} {S:List Stp},zca zhb es=some S→Has es x (zb2 S x)
 | [],S,h=>by simp only [zca,Option.some.injEq] at h; subst h; exact .inl ⟨rfl,rfl⟩
 | p::es,S,h=>by
  simp only [zca] at h
  split at h
  ·rename_i a b ha hb
   injection h with h; subst h
   have ih:=ztZ hb
   unfold Has zaX zb2 at ih ⊢
   rw [List.find?_cons,List.find?_cons,zf6 ha hx hr]
   by_cases e:a.1=x
   ·simp only [e,decide_true]
    obtain ⟨_,⟨t,ht⟩,_⟩:=zd2 ha
    exact .inr ⟨p.2,rfl,by rw [ht]; exact .sl _ _⟩
   ·simp only [e,decide_false]; exact ih
  ·cases h
theorem zyS {L:List Ent} (hL:L.length≤999999) {v:GV} (hv:Elems 5 v (L.map zbX)) {es:List (GV × GV)} {S:List Stp} (h:zca zhb es=some S):zca zhb (zul es x L v)=some (zqz S x L):=by
 unfold zul zqz
 by_cases hne:L=[]
 ·rw [if_pos hne,if_pos hne]; exact zgH hx hr h
 ·rw [if_neg hne,if_neg hne]
  unfold zas
  rw [ztX hx hr h]
  split
  ·exact ztY hx hr hne hL hv h
  ·exact zir h (by rw [zca,ztW hx hr hne hL hv]; rfl)
end
theorem zt0 {S:List Stp} (h:ziq S) (x:El) (L:List Ent):ziq (zqz S x L):=by
 unfold zqz
 split
 ·exact List.Nodup.sublist (List.Sublist.map _ List.filter_sublist) h
 ·split
  ·have:(S.map fun p=>if p.1=x then (x,L) else p).map (·.1)=S.map (·.1):=by
    rw [List.map_map]
    apply List.map_congr_left
    intro p _
    simp only [Function.comp]
    split
    ·rename_i e; exact e.symm
    ·rfl
   unfold ziq; rw [this]; exact h
  ·rename_i hn
   unfold ziq
   rw [List.map_append,List.nodup_append]
   refine ⟨h,by simp, ?_⟩
   intro a ha b hb e
   simp only [List.map_cons,List.map_nil,List.mem_singleton] at hb
   obtain ⟨p,hp,e2⟩:=List.mem_map.1 ha
   exact hn (List.any_eq_true.2 ⟨p,hp,by rw [decide_eq_true_eq,e2,e,hb]⟩)
theorem zoq {S:List Stp} (x:El) (L:List Ent) (y:El):zb2 (zqz S x L) y=if y=x then L else zb2 S y:=by
 by_cases e:y=x
 ·subst e
  rw [if_pos rfl]
  unfold zb2 zqz
  split
  ·rename_i hL
   have:(S.filter fun p=>!decide (p.1=y)).find? (fun p=>decide (p.1=y))=none:=by
    rw [List.find?_eq_none]
    intro p hp
    have:=(List.mem_filter.1 hp).2
    simpa using this
   rw [this,hL]; rfl
  ·split
   ·rename_i hL ha
    have:∀ S:List Stp,S.any (fun p=>decide (p.1=y))=true→(S.map fun p=>if p.1=y then (y,L) else p).find? (fun p=>decide (p.1=y))=some (y,L):=fun S=>by
     induction S with
     | nil=>intro h; simp at h
     | cons p S ih =>
      intro h
      rw [List.map_cons,List.find?_cons]
      by_cases e:p.1=y
      ·simp [e]
      ·rw [List.any_cons] at h
       simp only [e,decide_false,Bool.false_or] at h
       simp only [e,if_false,decide_false]
       exact ih h
    rw [this S ha]; rfl
   ·rename_i hL ha
    rw [List.find?_append]
    have:S.find? (fun p=>decide (p.1=y))=none:=by
     rw [List.find?_eq_none]
     intro p hp hpy
     exact ha (List.any_eq_true.2 ⟨p,hp,hpy⟩)
    rw [this]; simp
 ·rw [if_neg e]
  unfold zb2 zqz
  split
  ·congr 2
   induction S with
   | nil=>rfl
   | cons p S ih =>
    rw [List.filter_cons,List.find?_cons]
    by_cases e2:p.1=x
    ·have:¬ p.1=y:=fun e3=>e (e3.symm.trans e2)
     simp only [e2,decide_true,Bool.not_true,Bool.false_eq_true,if_false]
     rw [ih,show decide (x=y)=false from decide_eq_false (fun e3=>e e3.symm)]
    ·simp only [e2,decide_false,Bool.not_false,if_true,List.find?_cons]
     rw [ih]
  ·split
   ·rename_i ha
    clear ha
    congr 2
    induction S with
    | nil=>rfl
    | cons p S ih =>
     rw [List.map_cons,List.find?_cons,List.find?_cons]
     have hrec:(S.map fun p=>if p.1=x then (x,L) else p).find? (fun p=>decide (p.1=y))=S.find? (fun p=>decide (p.1=y)):=by
      clear ih
      induction S with
      | nil=>rfl
      | cons p S ih =>
       rw [List.map_cons,List.find?_cons,List.find?_cons,ih]
       by_cases e2:p.1=x
       ·have h1:decide (x=y)=false:=decide_eq_false (fun e3=>e e3.symm)
        simp only [e2,if_true,h1]
       ·simp only [e2,if_false]
     rw [hrec]
     by_cases e2:p.1=x
     ·have h1:decide (x=y)=false:=decide_eq_false (fun e3=>e e3.symm)
      simp only [e2,if_true,h1]
     ·simp only [e2,if_false]
   ·rw [List.find?_append]
    have : [(x,L)].find? (fun p=>decide (p.1=y))=none:=by
     rw [List.find?_eq_none]
     intro p hp
     rw [List.mem_singleton] at hp; subst hp
     simpa using fun e3:x=y=>e e3.symm
    rw [this]; simp
theorem zwS (S:List Stp) (x:El) (L:List Ent):(zqz S x L).length≤S.length+1:=by
 unfold zqz
 split
 ·exact Nat.le_succ_of_le (List.length_filter_le _ _)
 ·split
  ·rw [List.length_map]; omega
  ·rw [List.length_append]; exact Nat.le_refl _
structure Sto (H:GH) (s m:Nat) (S:List Stp):Prop where
 at_:∃ es,SAt H s m es∧zca zhb es=some S
 ap:ziq S
structure Stepm (m:Nat) (H H':GH):Prop where
 bo:H'.bo=H.bo
 bt:H'.bt=H.bt
 toks:H'.toks=H.toks
 len:H.objs.length≤H'.objs.length
 keep:∀ i o,i≠m→H.objs[i]?=some o→H'.objs[i]?=some o
theorem Stepm.refl (m:Nat) (H:GH):Stepm m H H:=⟨rfl,rfl,rfl,Nat.le_refl _,fun _ _ _ h=>h⟩
theorem Stepm.trans {m:Nat} {H H1 H2:GH} (h:Stepm m H H1) (h':Stepm m H1 H2):Stepm m H H2 :=
 ⟨h'.bo.trans h.bo,h'.bt.trans h.bt,h'.toks.trans h.toks,Nat.le_trans h.len h'.len,fun i o hi ho=>h'.keep i o hi (h.keep i o hi ho)⟩
theorem Stepm.bole {m:Nat} {H H1:GH} (h:Stepm m H H1) (hb:H.bo≤H.objs.length):H1.bo≤H1.objs.length:=by rw [h.bo]; exact Nat.le_trans hb h.len
theorem Sto.keep {H H':GH} {s m m':Nat} {S:List Stp} (h:Sto H s m S) (hs:Stepm m' H H') (h1:s≠m') (h2:m≠m'):Sto H' s m S:=by
 obtain ⟨⟨es,ha,hd⟩,hp⟩:=h
 exact ⟨⟨es,⟨hs.keep _ _ h1 ha.os,hs.keep _ _ h2 ha.om,by rw [hs.bo]; exact ha.bo⟩,hd⟩,hp⟩
theorem Sto.ne {H:GH} {s m:Nat} {S:List Stp} (h:Sto H s m S):s≠m:=by
 obtain ⟨⟨es,ha,_⟩,_⟩:=h
 intro e
 have h1:=ha.os
 rw [e,ha.om] at h1
 cases h1
theorem More.step {m:Nat} {H H1:GH} (h:More H H1):Stepm m H H1:=by
 have hl:=h.len
 refine ⟨h.bo, ?_, ?_,hl,fun i o _ ho=>h.get ho⟩
 all_goals obtain ⟨a,rfl⟩:=h; rfl
theorem Sto.lay {H H1:GH} {s m:Nat} {S:List Stp} {es:List (GV × GV)} (ha:SAt H s m es) (hd:zca zhb es=some S) (hp:ziq S) (h:More H H1) {x:El} (hx:ElFit x) (hr:ElRange x) {L:List Ent} (hL:L.length≤999999) {v:GV} (hv:Elems 5 v (L.map zbX)) :
 Sto { H1 with objs:=H1.objs.set m (.map true kLs (zul es x L v)) } s m (zqz S x L)∧Stepm m H { H1 with objs:=H1.objs.set m (.map true kLs (zul es x L v)) }:=by
 have hne:=(Sto.mk ⟨es,ha,hd⟩ hp:Sto H s m S).ne
 have hml:m<H1.objs.length:=Nat.lt_of_lt_of_le (List.getElem?_eq_some_iff.1 ha.om).1 h.len
 have k:∀ i o,i≠m→H.objs[i]?=some o→(H1.objs.set m (.map true kLs (zul es x L v)))[i]?=some o:=fun i o hi ho=>by
  rw [List.getElem?_set_ne (Ne.symm hi)]; exact h.get ho
 have s1:=(More.step (m:=m) h)
 exact ⟨⟨⟨_,⟨k _ _ hne ha.os,by show (H1.objs.set m _)[m]?=_; rw [List.getElem?_set_self hml],by show H1.bo≤m; rw [s1.bo]; exact ha.bo⟩,zyS hx hr hL hv hd⟩,zt0 hp x L⟩,
  ⟨s1.bo,s1.bt,s1.toks,by show H.objs.length≤(H1.objs.set m _).length; rw [List.length_set]; exact s1.len,k⟩⟩
theorem zyT {H:GH} {s m:Nat} {S:List Stp} (h:Sto H s m S) (e:Evt) (hf:EvFit e) (hr:ElRange e.x) (hD:Dots (zb2 S e.x)) (hL:(zb2 S e.x).length≤900000) (hb:evB e=true) (hbo:H.bo≤H.objs.length) :
 ∃ H1,ecall T2 zhu [.ptr s 0,.agg (evC e)] H=some (.int .i64 0,H1)∧Sto H1 s m (zqz S e.x (doL e (zb2 S e.x)))∧Stepm m H H1:=by
 obtain ⟨⟨es,ha,hd⟩,hp⟩:=h
 obtain ⟨H1,v',h1,h2,h3⟩:=zuE ha e hf hr (zb2 S e.x) (by omega) (ztZ hf.x hr hd) hD hbo
 rw [hb] at h3
 have hl:(doL e (zb2 S e.x)).length≤999999:=by
  have hc:(ziZ e (zb2 S e.x)).length≤(zb2 S e.x).length:=by
   unfold ziZ; split
   ·exact Nat.le_refl _
   ·exact List.length_filter_le _ _
  unfold doL; split
  ·rw [zjE]; omega
  ·omega
 have:=Sto.lay ha hd hp h1 hf.x hr hl h2
 exact ⟨_,up h3,this.1,this.2⟩
def znt (v:List Int) (e:Evt):List Int:=v.set e.r.toNat e.c
def zdq:List Int→List Evt→Prop
 | _,[]=>True
 | v,e::l=>zgp v e=true∧zdq (znt v e) l
def doF (S:List Stp) (e:Evt):List Stp:=zqz S e.x (doL e (zb2 S e.x))
def zby (E:List Evt):List Stp:=E.foldl doF []
def zap (v:List Int) (E:List Evt):List Int:=E.foldl znt v
theorem causl_snoc:∀ {v:List Int} {l:List Evt} {e:Evt},zdq v (l++[e])↔zdq v l∧zgp (zap v l) e=true
 | v,[],e=>by simp [zdq,zap]
 | v,a::l,e=>by
  rw [List.cons_append]
  simp only [zdq,zap,List.foldl_cons,causl_snoc,and_assoc]
theorem zgX (E:List Evt):zdq zero16 (zbh E).1∧(zbh E).2=zap zero16 (zbh E).1∧∀ e∈(zbh E).1,e∈E:=by
 suffices h:∀ (l:List Evt) (s:List Evt × List Int),(zdq zero16 s.1∧s.2=zap zero16 s.1)→zdq zero16 (l.foldl zdg s).1∧(l.foldl zdg s).2=zap zero16 (l.foldl zdg s).1∧∀ e∈(l.foldl zdg s).1,e∈s.1∨e∈l by
  have:=h E ([],zero16) ⟨trivial,rfl⟩
  exact ⟨this.1,this.2.1,fun e he=>by simpa using this.2.2 e he⟩
 intro l
 induction l with
 | nil=>intro s h; exact ⟨h.1,h.2,fun e he=>.inl he⟩
 | cons a l ih =>
  intro s h
  rw [List.foldl_cons]
  have hs:(zdq zero16 (zdg s a).1∧(zdg s a).2=zap zero16 (zdg s a).1)∧∀ e∈(zdg s a).1,e∈s.1∨e=a:=by
   unfold zdg
   split
   ·rename_i hf
    refine ⟨⟨causl_snoc.2 ⟨h.1,by rw [← h.2]; exact hf⟩, ?_⟩,fun e he=>by simpa using he⟩
    show s.2.set a.r.toNat a.c=(s.1++[a]).foldl znt zero16
    rw [List.foldl_append,h.2]; rfl
   ·exact ⟨h,fun e he=>.inl he⟩
  obtain ⟨h1,h2,h3⟩:=ih _ hs.1
  refine ⟨h1,h2,fun e he=>?_⟩
  rcases h3 e he with h | h
  ·rcases hs.2 e h with h | h
   ·exact .inl h
   ·exact .inr (by rw [h]; exact List.mem_cons_self)
  ·exact .inr (List.mem_cons_of_mem _ h)
theorem zjA:∀ (l:List Evt) (v:List Int),(zap v l).length=v.length
 | [],_=>rfl
 | e::l,v=>by show (zap (znt v e) l).length=_; rw [zjA l]; simp [znt]
theorem zt1 {v:List Int} (hv:v.length=16) {r c:Int} (h0:0≤r) (h1:r<16) (r':Int) (h0':0≤r'):zcu (v.set r.toNat c) r'=if r'=r then c else zcu v r':=by
 unfold zcu
 rw [List.getD_eq_getElem?_getD,List.getD_eq_getElem?_getD,List.getElem?_set]
 by_cases e:r'=r
 ·subst e
  rw [if_pos rfl,if_pos rfl,if_pos (by omega)]; rfl
 ·rw [if_neg e,if_neg (by omega)]
theorem zt2 {e:Evt} (h:evB e=true) (ho:e.op=1∨e.op=3):znW e.x (zgc e)=true:=by
 simp only [evB,ziA,Bool.and_eq_true] at h
 have hd:zeW e.r e.c=true:=h.1.1.1
 have hm:=h.2
 unfold zky at hm
 simp only [Bool.and_eq_true] at hm
 have hk:=ziw hm.1
 unfold znW zky
 simp only [Bool.and_eq_true]
 refine ⟨hd,hm.1, ?_⟩
 have hm2:=hm.2
 rcases ho with ho | ho
 ·rw [ho] at hm2
  simp only [true_or,if_true,Bool.and_eq_true,decide_eq_true_eq] at hm2
  have:¬ (e.x.k=4∨e.x.k=5):=by omega
  simp only [this,if_false]
  simp only [true_or,if_true,Bool.and_eq_true,decide_eq_true_eq]
  exact hm2
 ·rw [ho] at hm2
  have h31:¬ ((3:Int)=1∨(3:Int)=2):=by omega
  simp only [h31,if_false,if_true,Bool.and_eq_true,decide_eq_true_eq] at hm2
  have:e.x.k=4∨e.x.k=5:=by omega
  simp only [this,if_true,h31,if_false,Bool.and_eq_true,decide_eq_true_eq]
  exact hm2
theorem zku {e:Evt} (h:evB e=true):zbl e.x.k e.x.a e.x.b e.x.c e.x.d=true:=by
 simp only [evB,Bool.and_eq_true] at h
 have hm:=h.2
 unfold zky at hm
 simp only [Bool.and_eq_true] at hm
 exact hm.1
theorem zjB {x:El} (h:zbl x.k x.a x.b x.c x.d=true):ElRange x:=by
 have:=ziw h
 exact ⟨by omega,by omega⟩
structure Good (v:List Int) (n:Nat) (S:List Stp):Prop where
 dots:∀ x,Dots (zb2 S x)
 known:∀ x,∀ y∈zb2 S x,zeW y.r y.c=true∧y.c≤zcu v y.r
 len:∀ x,(zb2 S x).length≤n
 ent:∀ x,∀ y∈zb2 S x,znW x y=true∧EntFit y
 el:∀ x,zb2 S x≠[]→zbl x.k x.a x.b x.c x.d=true∧ElFit x
 size:S.length≤n
theorem Good.nil:Good zero16 0 [] :=
 ⟨fun x=>List.Pairwise.nil,fun x y h=>(by cases h),fun x=>Nat.le_refl _,fun x y h=>(by cases h),fun x h=>absurd rfl h,Nat.le_refl _⟩
theorem zwT {L:List Ent} {x y:Ent} (h:y∈zjD L x):y∈L∨y=x:=by
 unfold zjD at h
 simp only [List.mem_append,List.mem_cons,List.mem_filter] at h
 rcases h with h | h | h
 ·exact .inl h.1
 ·exact .inr h
 ·exact .inl h.1
theorem zt3 {L:List Ent} (h:Dots L) (x:Ent) (hn:∀ y∈L,zdv y x≠0):Dots (zjD L x):=by
 unfold zjD Dots
 rw [List.pairwise_append]
 have hs:∀ a b,zdv b a=- zdv a b:=fun a b=>by
  rw [zgd,zgd]; exact (zau zbt zbt).swap _ _
 refine ⟨h.filter _, ?_, ?_⟩
 ·rw [List.pairwise_cons]
  refine ⟨fun y hy=>?_,h.filter _⟩
  have:=List.mem_filter.1 hy
  have h1:¬ zdv y x<0:=by simpa using this.2
  have h2:=hn y this.1
  have:=hs y x
  omega
 ·intro a ha b hb
  have ha:=(List.mem_filter.1 ha).2
  have h1:zdv a x<0:=by simpa using ha
  rcases List.mem_cons.1 hb with rfl | hb
  ·exact h1
  ·have hb:=(List.mem_filter.1 hb).2
   have h2:¬ zdv b x<0:=by simpa using hb
   have h3:=hs b x
   by_cases h4:zdv b x=0
   ·have:zdv x b≤0:=by omega
    have e:(b.r,b.c)=(x.r,x.c):=by
     rw [zgd] at h4; exact (zau zbt zbt).zero _ _ h4
    rw [zgd] at h1 ⊢
    rw [e]; exact h1
   ·exact zi0 h1 (by omega)
theorem zhp {v:List Int} {e:Evt} (h:zgp v e=true):evB e=true∧zcu v e.r=e.c - 1∧∀ k:Nat,k<16→zcu e.past k≤zcu v k:=by
 simp only [zgp,leB,Bool.and_eq_true,decide_eq_true_eq,List.all_eq_true,List.mem_range] at h
 exact ⟨h.1,h.2.1,h.2.2⟩
theorem zt4 {v:List Int} {n:Nat} {S:List Stp} (h:Good v n S) (hv:v.length=16) {e:Evt} (hf:EvFit e) (he:zgp v e=true):Good (znt v e) (n+1) (doF S e):=by
 obtain ⟨hb,hc,_⟩:=zhp he
 obtain ⟨r0,r1,c0,c1⟩:=zee hb
 have hat:=zt1 hv (c:=e.c) r0 r1
 have hcut:∀ y∈ziZ e (zb2 S e.x),y∈zb2 S e.x:=fun y hy=>by
  unfold ziZ at hy
  split at hy
  ·exact hy
  ·exact (List.mem_filter.1 hy).1
 have hcd:Dots (ziZ e (zb2 S e.x)):=by
  unfold ziZ; split
  ·exact h.dots _
  ·exact (h.dots _).filter _
 have hcl:(ziZ e (zb2 S e.x)).length≤n:=by
  unfold ziZ; split
  ·exact h.len _
  ·exact Nat.le_trans (List.length_filter_le _ _) (h.len _)
 have hmem:∀ y∈doL e (zb2 S e.x),y∈zb2 S e.x∨(y=zgc e∧(e.op=1∨e.op=3)):=fun y hy=>by
  unfold doL at hy
  split at hy
  ·rename_i ho
   rcases zwT hy with hy | hy
   ·exact .inl (hcut y hy)
   ·exact .inr ⟨hy,ho⟩
  ·exact .inl (hcut y hy)
 have hnew:∀ y∈zb2 S e.x,zdv y (zgc e)≠0:=fun y hy e0=>by
  have e1:(y.r,y.c)=(e.r,e.c):=by
   rw [zgd] at e0; exact (zau zbt zbt).zero _ _ e0
  injection e1 with e1 e2
  have:=(h.known _ y hy).2
  rw [e1,e2] at this
  omega
 have hget:∀ x,zb2 (doF S e) x=if x=e.x then doL e (zb2 S e.x) else zb2 S x:=fun x=>zoq _ _ _
 have hgrow:∀ y:Ent,zeW y.r y.c=true∧y.c≤zcu v y.r→zeW y.r y.c=true∧y.c≤zcu (znt v e) y.r:=fun y hy=>by
  refine ⟨hy.1, ?_⟩
  have h1:=hy.1
  simp only [zeW,decide_eq_true_eq] at h1
  unfold znt
  rw [hat y.r h1.1]
  split
  ·rename_i e1
   have:=hy.2
   rw [e1,hc] at this
   omega
  ·exact hy.2
 refine ⟨fun x=>?_,fun x y hy=>?_,fun x=>?_,fun x y hy=>?_,fun x hx=>?_, ?_⟩
 ·rw [hget]
  split
  ·unfold doL
   split
   ·exact zt3 hcd _ fun y hy=>hnew y (hcut y hy)
   ·exact hcd
  ·exact h.dots x
 ·rw [hget] at hy
  split at hy
  ·rcases hmem y hy with hy | ⟨rfl,_⟩
   ·exact hgrow y (h.known _ y hy)
   ·refine ⟨by show zeW e.r e.c=true; simp only [zeW,decide_eq_true_eq]; exact ⟨r0,r1,c0,c1⟩, ?_⟩
    show e.c≤zcu (v.set e.r.toNat e.c) e.r
    rw [hat e.r r0,if_pos rfl]; exact Int.le_refl _
  ·exact hgrow y (h.known _ y hy)
 ·rw [hget]
  split
  ·unfold doL
   split
   ·rw [zjE]; omega
   ·omega
  ·have:=h.len x; omega
 ·rw [hget] at hy
  split at hy
  ·rename_i ex
   subst ex
   rcases hmem y hy with hy | ⟨rfl,ho⟩
   ·exact h.ent _ y hy
   ·exact ⟨zt2 hb ho,hf.n1,hf.n2⟩
  ·exact h.ent _ y hy
 ·rw [hget] at hx
  split at hx
  ·rename_i ex
   rw [ex]
   exact ⟨zku hb,hf.x⟩
  ·exact h.el x hx
 ·exact Nat.le_trans (zwS _ _ _) (Nat.succ_le_succ h.size)
theorem zkv:∀ (l:List Evt) {v:List Int} {n:Nat} {S:List Stp},Good v n S→v.length=16→(∀ e∈l,EvFit e)→zdq v l→Good (zap v l) (n+l.length) (l.foldl doF S)
 | [],v,n,S,h,_,_,_=>h
 | e::l,v,n,S,h,hv,hf,hc=>by
  have h1:=zt4 h hv (hf e List.mem_cons_self) hc.1
  have h2:=zkv l h1 (by simp [znt,hv]) (fun a ha=>hf a (List.mem_cons_of_mem _ ha)) hc.2
  rw [List.length_cons,show n+(l.length+1)=n+1+l.length by omega]
  exact h2
end Go.Proofs.YtchjbidfmhmmhaaGreatDoor
