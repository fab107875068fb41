/- Own work: the zaO machine and what it shows, part St. -/
import Derived.Test.YtchjbidfmhmmhaaGreatDoorAl
import Derived.Test.YtchjbidfmhmmhaaGreatDoorRo
set_option linter.all false
namespace Go.Proofs.YtchjbidfmhmmhaaGreatDoor
open Go.Sh
set_option maxHeartbeats 4000000
set_option maxRecDepth 100000
deriving instance DecidableEq for Ent
deriving instance DecidableEq for Evt
def zce (S:List Stp) (x:El):List Ent:=((S.find? fun p=>decide (p.1=x)).map (·.2)).getD []
def zr5 (S:List Stp) (x:El) (L:List Ent):List Stp:=if L=[] then S.filter fun p=>!decide (p.1=x) else if S.any (fun p=>decide (p.1=x)) then S.map (fun p=>if p.1=x then (x,L) else p) else S++[(x,L)]
def zi8 (S:List Stp):Prop:=(S.map (·.1)).Nodup
theorem apart_of {S:List Stp} : zb7 cfS S=true↔zi8 S:=by
 induction S with
 | nil=>simp [zb7,zi8]
 | cons p S ih =>
  simp only [zb7,Bool.and_eq_true,ih,zi8,List.map_cons,List.nodup_cons,List.all_eq_true,decide_eq_true_eq]
  refine and_congr ⟨fun h hm=>?_,fun h q hq e=>h ?_⟩ .rfl
  ·obtain ⟨q,hq,e⟩:=List.mem_map.1 hm
   exact h q hq (by show zdO p.1 q.1=0; rw [e]; exact ordE_ok.self _)
  ·rw [ordE_ok.zero _ _ e]; exact List.mem_map_of_mem hq
theorem zv5 (L:List Ent):zco zlF (L.map zb8)=some L:=by
 induction L with
 | nil=>rfl
 | cons e L ih =>
  have h1:zlF (zb8 e)=some e:=by
   show (some ⟨e.r,e.c,e.k,e.n,(mkB e.t).data.toList⟩:Option Ent)=some e
   simp
  rw [List.map_cons,zco,h1,ih]
theorem zv6 (x:El):zwB (elG x)=some x:=by
 show (some ⟨x.k,(mkB x.a).data.toList,(mkB x.b).data.toList,(mkB x.c).data.toList,(mkB x.d).data.toList⟩:Option El)=some x
 simp
theorem zv7 {x:El} {L:List Ent} (hx:ElFit x) (hr:ElRange x) (hne:L≠[]) (hL:L.length≤999999) {v:GV} (hv:Elems 5 v (L.map zb8)):zhT (elG x,v)=some (x,L):=by
 have hb:elB x=true:=by
  simp only [elB,Bool.and_eq_true,decide_eq_true_eq]
  exact ⟨hx.a,hx.b,hx.c,hx.d,hr.k1,hr.k2⟩
 rcases Elems.inv hv with ⟨_,h⟩ | ⟨t,rfl⟩
 ·exact absurd (by simpa using h) hne
 ·simp only [zhT,zv6,zv5,hb]
  simp [hne,hL]
theorem zgN {p:GV × GV} {b:Stp} (h:zhT p=some b) {x:El} (hx:ElFit x) (hr:ElRange x):zca p.1 (elG x)=decide (b.1=x):=by
 obtain ⟨e1,_,o1⟩:=zeu h
 rw [e1,Bool.eq_iff_iff,zaQ (zgm o1.fit o1.range) (zgm hx hr),decide_eq_true_eq]
 exact ⟨zex,fun h=>by rw [h]⟩
theorem zi9 {α β:Type} {f:α→Option β} : ∀ {l l':List α} {r r':List β},zco f l=some r→zco f l'=some r'→zco f (l++l')=some (r++r')
 | [],_,r,_,h,h'=>by simp only [zco,Option.some.injEq] at h; subst h; exact h'
 | x::l,l',r,r',h,h'=>by
  simp only [zco] at h
  split at h
  ·rename_i a b ha hb
   injection h with h; subst h
   rw [List.cons_append,zco,ha,zi9 hb h',List.cons_append]
  ·cases h
section
variable {x:El} (hx:ElFit x) (hr:ElRange x)
include hx hr
theorem zv8:∀ {es:List (GV × GV)} {S:List Stp},zco zhT es=some S→es.any (fun p=>zca p.1 (elG x))=S.any fun p=>decide (p.1=x)
 | [],S,h=>by simp only [zco,Option.some.injEq] at h; subst h; rfl
 | p::es,S,h=>by
  simp only [zco] at h
  split at h
  ·rename_i a b ha hb
   injection h with h; subst h
   rw [List.any_cons,List.any_cons,zgN ha hx hr,zv8 hb]
  ·cases h
theorem zv9 {L:List Ent} (hne:L≠[]) (hL:L.length≤999999) {v:GV} (hv:Elems 5 v (L.map zb8)):∀ {es:List (GV × GV)} {S:List Stp},zco zhT es=some S→zco zhT (es.map fun p=>if zca p.1 (elG x) then (elG x,v) else p)=some (S.map fun p=>if p.1=x then (x,L) else p)
 | [],S,h=>by simp only [zco,Option.some.injEq] at h; subst h; rfl
 | p::es,S,h=>by
  simp only [zco] at h
  split at h
  ·rename_i a b ha hb
   injection h with h; subst h
   rw [List.map_cons,List.map_cons,zco,zv9 hne hL hv hb,zgN ha hx hr]
   by_cases e:a.1=x
   ·simp only [e,decide_true,if_true,zv7 hx hr hne hL hv]
   ·simp only [e,decide_false,if_false,ha,Bool.false_eq_true]
  ·cases h
theorem zhp:∀ {es:List (GV × GV)} {S:List Stp},zco zhT es=some S→zco zhT (es.filter fun p=>!zca p.1 (elG x))=some (S.filter fun p=>!decide (p.1=x))
 | [],S,h=>by simp only [zco,Option.some.injEq] at h; subst h; rfl
 | p::es,S,h=>by
  simp only [zco] at h
  split at h
  ·rename_i a b ha hb
   injection h with h; subst h
   rw [List.filter_cons,List.filter_cons,zgN ha hx hr]
   by_cases e:a.1=x
   ·simp only [e,decide_true,Bool.not_true,Bool.false_eq_true,if_false]; exact zhp hb
   ·simp only [e,decide_false,Bool.not_false,if_true]; rw [zco,ha,zhp hb]
  ·cases h
theorem zwa:∀ {es:List (GV × GV)} {S:List Stp},zco zhT es=some S→Has es x (zce S x)
 | [],S,h=>by simp only [zco,Option.some.injEq] at h; subst h; exact .inl ⟨rfl,rfl⟩
 | p::es,S,h=>by
  simp only [zco] at h
  split at h
  ·rename_i a b ha hb
   injection h with h; subst h
   have ih:=zwa hb
   unfold Has za5 zce at ih ⊢
   rw [List.find?_cons,List.find?_cons,zgN ha hx hr]
   by_cases e:a.1=x
   ·simp only [e,decide_true]
    obtain ⟨_,⟨t,ht⟩,_⟩:=zeu ha
    exact .inr ⟨p.2,rfl,by rw [ht]; exact .sl _ _⟩
   ·simp only [e,decide_false]; exact ih
  ·cases h
theorem zA5 {L:List Ent} (hL:L.length≤999999) {v:GV} (hv:Elems 5 v (L.map zb8)) {es:List (GV × GV)} {S:List Stp} (h:zco zhT es=some S):zco zhT (zwu es x L v)=some (zr5 S x L):=by
 unfold zwu zr5
 by_cases hne:L=[]
 ·rw [if_pos hne,if_pos hne]; exact zhp hx hr h
 ·rw [if_neg hne,if_neg hne]
  unfold zav
  rw [zv8 hx hr h]
  split
  ·exact zv9 hx hr hne hL hv h
  ·exact zi9 h (by rw [zco,zv7 hx hr hne hL hv]; rfl)
end
theorem zwb {S:List Stp} (h:zi8 S) (x:El) (L:List Ent):zi8 (zr5 S x L):=by
 unfold zr5
 split
 ·exact List.Nodup.sublist (List.Sublist.map _ List.filter_sublist) h
 ·split
  ·have:(S.map fun p=>if p.1=x then (x,L) else p).map (·.1)=S.map (·.1):=by
    rw [List.map_map]
    apply List.map_congr_left
    intro p _
    simp only [Function.comp]
    split
    ·rename_i e; exact e.symm
    ·rfl
   unfold zi8; rw [this]; exact h
  ·rename_i hn
   unfold zi8
   rw [List.map_append,List.nodup_append]
   refine ⟨h,by simp, ?_⟩
   intro a ha b hb e
   simp only [List.map_cons,List.map_nil,List.mem_singleton] at hb
   obtain ⟨p,hp,e2⟩:=List.mem_map.1 ha
   exact hn (List.any_eq_true.2 ⟨p,hp,by rw [decide_eq_true_eq,e2,e,hb]⟩)
theorem zpM {S:List Stp} (x:El) (L:List Ent) (y:El):zce (zr5 S x L) y=if y=x then L else zce S y:=by
 by_cases e:y=x
 ·subst e
  rw [if_pos rfl]
  unfold zce zr5
  split
  ·rename_i hL
   have:(S.filter fun p=>!decide (p.1=y)).find? (fun p=>decide (p.1=y))=none:=by
    rw [List.find?_eq_none]
    intro p hp
    have:=(List.mem_filter.1 hp).2
    simpa using this
   rw [this,hL]; rfl
  ·split
   ·rename_i hL ha
    have:∀ S:List Stp,S.any (fun p=>decide (p.1=y))=true→(S.map fun p=>if p.1=y then (y,L) else p).find? (fun p=>decide (p.1=y))=some (y,L):=fun S=>by
     induction S with
     | nil=>intro h; simp at h
     | cons p S ih =>
      intro h
      rw [List.map_cons,List.find?_cons]
      by_cases e:p.1=y
      ·simp [e]
      ·rw [List.any_cons] at h
       simp only [e,decide_false,Bool.false_or] at h
       simp only [e,if_false,decide_false]
       exact ih h
    rw [this S ha]; rfl
   ·rename_i hL ha
    rw [List.find?_append]
    have:S.find? (fun p=>decide (p.1=y))=none:=by
     rw [List.find?_eq_none]
     intro p hp hpy
     exact ha (List.any_eq_true.2 ⟨p,hp,hpy⟩)
    rw [this]; simp
 ·rw [if_neg e]
  unfold zce zr5
  split
  ·congr 2
   induction S with
   | nil=>rfl
   | cons p S ih =>
    rw [List.filter_cons,List.find?_cons]
    by_cases e2:p.1=x
    ·have:¬ p.1=y:=fun e3=>e (e3.symm.trans e2)
     simp only [e2,decide_true,Bool.not_true,Bool.false_eq_true,if_false]
     rw [ih,show decide (x=y)=false from decide_eq_false (fun e3=>e e3.symm)]
    ·simp only [e2,decide_false,Bool.not_false,if_true,List.find?_cons]
     rw [ih]
  ·split
   ·rename_i ha
    clear ha
    congr 2
    induction S with
    | nil=>rfl
    | cons p S ih =>
     rw [List.map_cons,List.find?_cons,List.find?_cons]
     have hrec:(S.map fun p=>if p.1=x then (x,L) else p).find? (fun p=>decide (p.1=y))=S.find? (fun p=>decide (p.1=y)):=by
      clear ih
      induction S with
      | nil=>rfl
      | cons p S ih =>
       rw [List.map_cons,List.find?_cons,List.find?_cons,ih]
       by_cases e2:p.1=x
       ·have h1:decide (x=y)=false:=decide_eq_false (fun e3=>e e3.symm)
        simp only [e2,if_true,h1]
       ·simp only [e2,if_false]
     rw [hrec]
     by_cases e2:p.1=x
     ·have h1:decide (x=y)=false:=decide_eq_false (fun e3=>e e3.symm)
      simp only [e2,if_true,h1]
     ·simp only [e2,if_false]
   ·rw [List.find?_append]
    have : [(x,L)].find? (fun p=>decide (p.1=y))=none:=by
     rw [List.find?_eq_none]
     intro p hp
     rw [List.mem_singleton] at hp; subst hp
     simpa using fun e3:x=y=>e e3.symm
    rw [this]; simp
theorem zyZ (S:List Stp) (x:El) (L:List Ent):(zr5 S x L).length≤S.length+1:=by
 unfold zr5
 split
 ·exact Nat.le_succ_of_le (List.length_filter_le _ _)
 ·split
  ·rw [List.length_map]; omega
  ·rw [List.length_append]; exact Nat.le_refl _
structure Sto (H:GH) (s m:Nat) (S:List Stp):Prop where
 at_:∃ es,SAt H s m es∧zco zhT es=some S
 ap:zi8 S
structure Stepm (m:Nat) (H H':GH):Prop where
 bo:H'.bo=H.bo
 bt:H'.bt=H.bt
 toks:H'.toks=H.toks
 len:H.objs.length≤H'.objs.length
 keep:∀ i o,i≠m→H.objs[i]?=some o→H'.objs[i]?=some o
theorem Stepm.refl (m:Nat) (H:GH):Stepm m H H:=⟨rfl,rfl,rfl,Nat.le_refl _,fun _ _ _ h=>h⟩
theorem Stepm.trans {m:Nat} {H H1 H2:GH} (h:Stepm m H H1) (h':Stepm m H1 H2):Stepm m H H2 :=
 ⟨h'.bo.trans h.bo,h'.bt.trans h.bt,h'.toks.trans h.toks,Nat.le_trans h.len h'.len,fun i o hi ho=>h'.keep i o hi (h.keep i o hi ho)⟩
theorem Stepm.bole {m:Nat} {H H1:GH} (h:Stepm m H H1) (hb:H.bo≤H.objs.length):H1.bo≤H1.objs.length:=by rw [h.bo]; exact Nat.le_trans hb h.len
theorem Sto.keep {H H':GH} {s m m':Nat} {S:List Stp} (h:Sto H s m S) (hs:Stepm m' H H') (h1:s≠m') (h2:m≠m'):Sto H' s m S:=by
 obtain ⟨⟨es,ha,hd⟩,hp⟩:=h
 exact ⟨⟨es,⟨hs.keep _ _ h1 ha.os,hs.keep _ _ h2 ha.om,by rw [hs.bo]; exact ha.bo⟩,hd⟩,hp⟩
theorem Sto.ne {H:GH} {s m:Nat} {S:List Stp} (h:Sto H s m S):s≠m:=by
 obtain ⟨⟨es,ha,_⟩,_⟩:=h
 intro e
 have h1:=ha.os
 rw [e,ha.om] at h1
 cases h1
theorem More.step {m:Nat} {H H1:GH} (h:More H H1):Stepm m H H1:=by
 have hl:=h.len
 refine ⟨h.bo, ?_, ?_,hl,fun i o _ ho=>h.get ho⟩
 all_goals obtain ⟨a,rfl⟩:=h; rfl
theorem Sto.lay {H H1:GH} {s m:Nat} {S:List Stp} {es:List (GV × GV)} (ha:SAt H s m es) (hd:zco zhT es=some S) (hp:zi8 S) (h:More H H1) {x:El} (hx:ElFit x) (hr:ElRange x) {L:List Ent} (hL:L.length≤999999) {v:GV} (hv:Elems 5 v (L.map zb8)) :
 Sto { H1 with objs:=H1.objs.set m (.map true kLs (zwu es x L v)) } s m (zr5 S x L)∧Stepm m H { H1 with objs:=H1.objs.set m (.map true kLs (zwu es x L v)) }:=by
 have hne:=(Sto.mk ⟨es,ha,hd⟩ hp:Sto H s m S).ne
 have hml:m<H1.objs.length:=Nat.lt_of_lt_of_le (List.getElem?_eq_some_iff.1 ha.om).1 h.len
 have k:∀ i o,i≠m→H.objs[i]?=some o→(H1.objs.set m (.map true kLs (zwu es x L v)))[i]?=some o:=fun i o hi ho=>by
  rw [List.getElem?_set_ne (Ne.symm hi)]; exact h.get ho
 have s1:=(More.step (m:=m) h)
 exact ⟨⟨⟨_,⟨k _ _ hne ha.os,by show (H1.objs.set m _)[m]?=_; rw [List.getElem?_set_self hml],by show H1.bo≤m; rw [s1.bo]; exact ha.bo⟩,zA5 hx hr hL hv hd⟩,zwb hp x L⟩,
  ⟨s1.bo,s1.bt,s1.toks,by show H.objs.length≤(H1.objs.set m _).length; rw [List.length_set]; exact s1.len,k⟩⟩
theorem zA6 {H:GH} {s m:Nat} {S:List Stp} (h:Sto H s m S) (e:Evt) (hf:EvFit e) (hr:ElRange e.x) (hD:Dots (zce S e.x)) (hL:(zce S e.x).length≤900000) (hb:evB e=true) (hbo:H.bo≤H.objs.length) :
 ∃ H1,ecall T2 zia [.ptr s 0,.agg (evC e)] H=some (.int .i64 0,H1)∧Sto H1 s m (zr5 S e.x (doL e (zce S e.x)))∧Stepm m H H1:=by
 obtain ⟨⟨es,ha,hd⟩,hp⟩:=h
 obtain ⟨H1,v',h1,h2,h3⟩:=zwM ha e hf hr (zce S e.x) (by omega) (zwa hf.x hr hd) hD hbo
 rw [hb] at h3
 have hl:(doL e (zce S e.x)).length≤999999:=by
  have hc:(zjN e (zce S e.x)).length≤(zce S e.x).length:=by
   unfold zjN; split
   ·exact Nat.le_refl _
   ·exact List.length_filter_le _ _
  unfold doL; split
  ·rw [zkB]; omega
  ·omega
 have:=Sto.lay ha hd hp h1 hf.x hr hl h2
 exact ⟨_,up h3,this.1,this.2⟩
def zr6 (v:List Int) (e:Evt):List Int:=v.set e.r.toNat e.c
def zdQ:List Int→List Evt→Prop
 | _,[]=>True
 | v,e::l=>zle v e=true∧zdQ (zr6 v e) l
def doF (S:List Stp) (e:Evt):List Stp:=zr5 S e.x (doL e (zce S e.x))
def zbK (E:List Evt):List Stp:=E.foldl doF []
def zcB (v:List Int) (E:List Evt):List Int:=E.foldl zr6 v
theorem causl_snoc:∀ {v:List Int} {l:List Evt} {e:Evt},zdQ v (l++[e])↔zdQ v l∧zle (zcB v l) e=true
 | v,[],e=>by simp [zdQ,zcB]
 | v,a::l,e=>by
  rw [List.cons_append]
  simp only [zdQ,zcB,List.foldl_cons,causl_snoc,and_assoc]
theorem znc (E:List Evt):zdQ zero16 (zbw E).1∧(zbw E).2=zcB zero16 (zbw E).1∧∀ e∈(zbw E).1,e∈E:=by
 suffices h:∀ (l:List Evt) (s:List Evt × List Int),(zdQ zero16 s.1∧s.2=zcB zero16 s.1)→zdQ zero16 (l.foldl zdD s).1∧(l.foldl zdD s).2=zcB zero16 (l.foldl zdD s).1∧∀ e∈(l.foldl zdD s).1,e∈s.1∨e∈l by
  have:=h E ([],zero16) ⟨trivial,rfl⟩
  exact ⟨this.1,this.2.1,fun e he=>by simpa using this.2.2 e he⟩
 intro l
 induction l with
 | nil=>intro s h; exact ⟨h.1,h.2,fun e he=>.inl he⟩
 | cons a l ih =>
  intro s h
  rw [List.foldl_cons]
  have hs:(zdQ zero16 (zdD s a).1∧(zdD s a).2=zcB zero16 (zdD s a).1)∧∀ e∈(zdD s a).1,e∈s.1∨e=a:=by
   unfold zdD
   split
   ·rename_i hf
    refine ⟨⟨causl_snoc.2 ⟨h.1,by rw [← h.2]; exact hf⟩, ?_⟩,fun e he=>by simpa using he⟩
    show s.2.set a.r.toNat a.c=(s.1++[a]).foldl zr6 zero16
    rw [List.foldl_append,h.2]; rfl
   ·exact ⟨h,fun e he=>.inl he⟩
  obtain ⟨h1,h2,h3⟩:=ih _ hs.1
  refine ⟨h1,h2,fun e he=>?_⟩
  rcases h3 e he with h | h
  ·rcases hs.2 e h with h | h
   ·exact .inl h
   ·exact .inr (by rw [h]; exact List.mem_cons_self)
  ·exact .inr (List.mem_cons_of_mem _ h)
theorem zzA {v:List Int} (hv:v.length=16) {r c:Int} (h0:0≤r) (h1:r<16) (r':Int) (h0':0≤r'):zdx (v.set r.toNat c) r'=if r'=r then c else zdx v r':=by
 unfold zdx
 rw [List.getD_eq_getElem?_getD,List.getD_eq_getElem?_getD,List.getElem?_set]
 by_cases e:r'=r
 ·subst e
  rw [if_pos rfl,if_pos rfl,if_pos (by omega)]; rfl
 ·rw [if_neg e,if_neg (by omega)]
theorem zwc {e:Evt} (h:evB e=true) (ho:e.op=1∨e.op=3):zpl e.x (zgV e)=true:=by
 simp only [evB,zlK,Bool.and_eq_true] at h
 have hd:zgP e.r e.c=true:=h.1.1.1
 have hm:=h.2
 unfold znm at hm
 simp only [Bool.and_eq_true] at hm
 have hk:=zjd hm.1
 unfold zpl znm
 simp only [Bool.and_eq_true]
 refine ⟨hd,hm.1, ?_⟩
 have hm2:=hm.2
 rcases ho with ho | ho
 ·rw [ho] at hm2
  simp only [true_or,if_true,Bool.and_eq_true,decide_eq_true_eq] at hm2
  have:¬ (e.x.k=4∨e.x.k=5):=by omega
  simp only [this,if_false]
  simp only [true_or,if_true,Bool.and_eq_true,decide_eq_true_eq]
  exact hm2
 ·rw [ho] at hm2
  have h31:¬ ((3:Int)=1∨(3:Int)=2):=by omega
  simp only [h31,if_false,if_true,Bool.and_eq_true,decide_eq_true_eq] at hm2
  have:e.x.k=4∨e.x.k=5:=by omega
  simp only [this,if_true,h31,if_false,Bool.and_eq_true,decide_eq_true_eq]
  exact hm2
theorem zlB {e:Evt} (h:evB e=true):zbu e.x.k e.x.a e.x.b e.x.c e.x.d=true:=by
 simp only [evB,Bool.and_eq_true] at h
 have hm:=h.2
 unfold znm at hm
 simp only [Bool.and_eq_true] at hm
 exact hm.1
theorem zkx {x:El} (h:zbu x.k x.a x.b x.c x.d=true):ElRange x:=by
 have:=zjd h
 exact ⟨by omega,by omega⟩
structure Good (v:List Int) (n:Nat) (S:List Stp):Prop where
 dots:∀ x,Dots (zce S x)
 known:∀ x,∀ y∈zce S x,zgP y.r y.c=true∧y.c≤zdx v y.r
 len:∀ x,(zce S x).length≤n
 ent:∀ x,∀ y∈zce S x,zpl x y=true∧EntFit y
 el:∀ x,zce S x≠[]→zbu x.k x.a x.b x.c x.d=true∧ElFit x
 size:S.length≤n
theorem Good.nil:Good zero16 0 [] :=
 ⟨fun x=>List.Pairwise.nil,fun x y h=>(by cases h),fun x=>Nat.le_refl _,fun x y h=>(by cases h),fun x h=>absurd rfl h,Nat.le_refl _⟩
theorem zy0 {L:List Ent} {x y:Ent} (h:y∈zkA L x):y∈L∨y=x:=by
 unfold zkA at h
 simp only [List.mem_append,List.mem_cons,List.mem_filter] at h
 rcases h with h | h | h
 ·exact .inl h.1
 ·exact .inr h
 ·exact .inl h.1
theorem zwd {L:List Ent} (h:Dots L) (x:Ent) (hn:∀ y∈L,zdT y x≠0):Dots (zkA L x):=by
 unfold zkA Dots
 rw [List.pairwise_append]
 have hs:∀ a b,zdT b a=- zdT a b:=fun a b=>by
  rw [zgW,zgW]; exact (zax zbD zbD).swap _ _
 refine ⟨h.filter _, ?_, ?_⟩
 ·rw [List.pairwise_cons]
  refine ⟨fun y hy=>?_,h.filter _⟩
  have:=List.mem_filter.1 hy
  have h1:¬ zdT y x<0:=by simpa using this.2
  have h2:=hn y this.1
  have:=hs y x
  omega
 ·intro a ha b hb
  have ha:=(List.mem_filter.1 ha).2
  have h1:zdT a x<0:=by simpa using ha
  rcases List.mem_cons.1 hb with rfl | hb
  ·exact h1
  ·have hb:=(List.mem_filter.1 hb).2
   have h2:¬ zdT b x<0:=by simpa using hb
   have h3:=hs b x
   by_cases h4:zdT b x=0
   ·have:zdT x b≤0:=by omega
    have e:(b.r,b.c)=(x.r,x.c):=by
     rw [zgW] at h4; exact (zax zbD zbD).zero _ _ h4
    rw [zgW] at h1 ⊢
    rw [e]; exact h1
   ·exact zjO h1 (by omega)
theorem zh6 {v:List Int} {e:Evt} (h:zle v e=true):evB e=true∧zdx v e.r=e.c - 1∧∀ k:Nat,k<16→zdx e.past k≤zdx v k:=by
 simp only [zle,leB,Bool.and_eq_true,decide_eq_true_eq,List.all_eq_true,List.mem_range] at h
 exact ⟨h.1,h.2.1,h.2.2⟩
theorem zwe {v:List Int} {n:Nat} {S:List Stp} (h:Good v n S) (hv:v.length=16) {e:Evt} (hf:EvFit e) (he:zle v e=true):Good (zr6 v e) (n+1) (doF S e):=by
 obtain ⟨hb,hc,_⟩:=zh6 he
 obtain ⟨r0,r1,c0,c1⟩:=zfN hb
 have hat:=zzA hv (c:=e.c) r0 r1
 have hcut:∀ y∈zjN e (zce S e.x),y∈zce S e.x:=fun y hy=>by
  unfold zjN at hy
  split at hy
  ·exact hy
  ·exact (List.mem_filter.1 hy).1
 have hcd:Dots (zjN e (zce S e.x)):=by
  unfold zjN; split
  ·exact h.dots _
  ·exact (h.dots _).filter _
 have hcl:(zjN e (zce S e.x)).length≤n:=by
  unfold zjN; split
  ·exact h.len _
  ·exact Nat.le_trans (List.length_filter_le _ _) (h.len _)
 have hmem:∀ y∈doL e (zce S e.x),y∈zce S e.x∨(y=zgV e∧(e.op=1∨e.op=3)):=fun y hy=>by
  unfold doL at hy
  split at hy
  ·rename_i ho
   rcases zy0 hy with hy | hy
   ·exact .inl (hcut y hy)
   ·exact .inr ⟨hy,ho⟩
  ·exact .inl (hcut y hy)
 have hnew:∀ y∈zce S e.x,zdT y (zgV e)≠0:=fun y hy e0=>by
  have e1:(y.r,y.c)=(e.r,e.c):=by
   rw [zgW] at e0; exact (zax zbD zbD).zero _ _ e0
  injection e1 with e1 e2
  have:=(h.known _ y hy).2
  rw [e1,e2] at this
  omega
 have hget:∀ x,zce (doF S e) x=if x=e.x then doL e (zce S e.x) else zce S x:=fun x=>zpM _ _ _
 have hgrow:∀ y:Ent,zgP y.r y.c=true∧y.c≤zdx v y.r→zgP y.r y.c=true∧y.c≤zdx (zr6 v e) y.r:=fun y hy=>by
  refine ⟨hy.1, ?_⟩
  have h1:=hy.1
  simp only [zgP,decide_eq_true_eq] at h1
  unfold zr6
  rw [hat y.r h1.1]
  split
  ·rename_i e1
   have:=hy.2
   rw [e1,hc] at this
   omega
  ·exact hy.2
 refine ⟨fun x=>?_,fun x y hy=>?_,fun x=>?_,fun x y hy=>?_,fun x hx=>?_, ?_⟩
 ·rw [hget]
  split
  ·unfold doL
   split
   ·exact zwd hcd _ fun y hy=>hnew y (hcut y hy)
   ·exact hcd
  ·exact h.dots x
 ·rw [hget] at hy
  split at hy
  ·rcases hmem y hy with hy | ⟨rfl,_⟩
   ·exact hgrow y (h.known _ y hy)
   ·refine ⟨by show zgP e.r e.c=true; simp only [zgP,decide_eq_true_eq]; exact ⟨r0,r1,c0,c1⟩, ?_⟩
    show e.c≤zdx (v.set e.r.toNat e.c) e.r
    rw [hat e.r r0,if_pos rfl]; exact Int.le_refl _
  ·exact hgrow y (h.known _ y hy)
 ·rw [hget]
  split
  ·unfold doL
   split
   ·rw [zkB]; omega
   ·omega
  ·have:=h.len x; omega
 ·rw [hget] at hy
  split at hy
  ·rename_i ex
   subst ex
   rcases hmem y hy with hy | ⟨rfl,ho⟩
   ·exact h.ent _ y hy
   ·exact ⟨zwc hb ho,hf.n1,hf.n2⟩
  ·exact h.ent _ y hy
 ·rw [hget] at hx
  split at hx
  ·rename_i ex
   rw [ex]
   exact ⟨zlB hb,hf.x⟩
  ·exact h.el x hx
 ·exact Nat.le_trans (zyZ _ _ _) (Nat.succ_le_succ h.size)
theorem zlC:∀ (l:List Evt) {v:List Int} {n:Nat} {S:List Stp},Good v n S→v.length=16→(∀ e∈l,EvFit e)→zdQ v l→Good (zcB v l) (n+l.length) (l.foldl doF S)
 | [],v,n,S,h,_,_,_=>h
 | e::l,v,n,S,h,hv,hf,hc=>by
  have h1:=zwe h hv (hf e List.mem_cons_self) hc.1
  have h2:=zlC l h1 (by simp [zr6,hv]) (fun a ha=>hf a (List.mem_cons_of_mem _ ha)) hc.2
  rw [List.length_cons,show n+(l.length+1)=n+1+l.length by omega]
  exact h2
end Go.Proofs.YtchjbidfmhmmhaaGreatDoor
