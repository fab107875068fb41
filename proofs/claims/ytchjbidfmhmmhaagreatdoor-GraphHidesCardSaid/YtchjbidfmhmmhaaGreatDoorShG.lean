/- Own work: the zaG machine and what it shows, part ShG. -/
import Derived.Test.YtchjbidfmhmmhaaGreatDoorShT
import Derived.Below
import Derived.Lib.SplitLaws
import Derived.Lib.UnsafeStr
set_option linter.all false
namespace Go.Sh
variable [Facts]
open Go.RowKit
section
variable {P:Program} {ro:Nat} {K:Ctx} {H:GH}
theorem zdO {w w':World} (h:Below w.heap.size w w') (hd:Facts.mono→w.drawn≤w'.drawn):WGrow w w':=⟨h.size,h.tape,h.os,h.output,h.block,hd⟩
theorem Ext.same (K:Ctx) {w':World} (hd:Facts.mono→K.w.drawn≤w'.drawn) (hh:w'.heap=K.w.heap) (ht:w'.tape=K.w.tape) (ho:w'.os=K.w.os) (hp:w'.output=K.w.output) (bo bt:Nat):Ext (fun _=>False) bo bt K (K.at w') :=
 { N:=rfl,nO:=Nat.le_refl _,size:=by show K.w.heap.size≤w'.heap.size; rw [hh]; exact Nat.le_refl _,tape:=ht,os:=ho,output:=hp,drawn:=hd,φ:=fun _ _ _ h=>h,κ:=fun _ _=>rfl,
   imm:=fun b o h=>⟨⟨by show b<w'.heap.size; rw [hh]; exact h.1,h.2.1,h.2.2.1,h.2.2.2⟩,by show w'.cell? _=_; simp only [World.cell?,hh]⟩,
   loc:=fun _ h=>⟨h,fun _=>by show w'.heap[_]?=_; rw [hh]⟩,below:=fun _ _=>by show w'.heap[_]?=_; rw [hh],
   tok:=fun _ p h=>⟨p,h,Nat.le_refl _,fun _=>rfl⟩,prot:=fun _ _ _=>⟨rfl,fun _ _=>by show w'.heap[_]?=_; rw [hh]⟩,protT:=fun _ _ _=>⟨rfl,rfl,fun _ _=>by show w'.heap[_]?=_; rw [hh]⟩ }
theorem HR.same (hr:HR ro K H) {w':World} (hh:w'.heap=K.w.heap) (x:Ext (fun _=>False) H.bo H.bt K (K.at w')):HR ro (K.at w') H :=
 { nO:=hr.nO,toks:=hr.toks,bo:=hr.bo,bt:=hr.bt,
   obj:=by
    intro id o ho
    have:=hr.obj id o ho
    cases o with
    | cells t cs =>
     obtain ⟨b,vs,elem,fr,h1,h2,h3,h4,h5⟩:=this
     exact ⟨b,vs,elem,fr,h1,by show w'.heap[b]?=_; rw [hh]; exact h2,h3,h4,fun i c v hc hv=>(h5 i c v hc hv).ext x⟩
    | row t cs =>
     obtain ⟨hidn,hro,b,vs,h1,h2,h3,h4,h5⟩:=this
     exact ⟨hidn,hro,b,vs,h1,by show w'.heap[b]?=_; rw [hh]; exact h2,h3,h4,fun i c v hc hv=>(h5 i c v hc hv).ext x⟩
    | map ag ls es =>
     obtain ⟨hw,b,ents,clock,h1,h2,h3,es',h4,h5,h6⟩:=this
     exact ⟨hw,b,ents,clock,h1,by show w'.heap[b]?=_; rw [hh]; exact h2,h3,es',h4,h5,fun i p m hp hm=>⟨(h6 i p m hp hm).1.ext x,(h6 i p m hp hm).2.ext x⟩⟩
    | dead=>trivial
   inj:=hr.inj,dom:=by show ∀ id b,K.φ id=some b→id<K.nO∧b<w'.heap.size∧¬ K.ρ b∧(ro≤id→K.N≤b); rw [hh]; exact hr.dom
   glob:=hr.glob,roN:=hr.roN
   tok:=by
    intro t ti h
    obtain ⟨a1,a2,a3,a4,a5,cur,lo,hi,a6,a7⟩:=hr.tok t ti h
    exact ⟨a1,by show ti.b<w'.heap.size; rw [hh]; exact a2,a3,a4,a5,cur,lo,hi,by show w'.heap[ti.b]?=_; rw [hh]; exact a6,a7⟩
   tinj:=hr.tinj,size:=by show K.N≤w'.heap.size; rw [hh]; exact hr.size
   loc:=by show ∀ b,K.ρ b→K.N≤b∧b<w'.heap.size; rw [hh]; exact hr.loc,
   dat:=hr.to rfl (fun _ _=>by show w'.heap[_]?=_; rw [hh]) }
theorem zer (hr:HR ro K H) {w':World} (hg:WGrow K.w w'):HR ro (K.at w') H∧Ext (fun _=>False) H.bo H.bt K (K.at w'):=by
 by_cases hlt:K.w.heap.size<w'.heap.size
 ·have hf:=zkc hr hg hlt
  exact ⟨hr.fresh hf rfl rfl rfl rfl,hf.ext hr (fun t _ _=>⟨rfl,rfl⟩) _⟩
 ·have hs:=hg.size
  have hh:w'.heap=K.w.heap:=by
   apply Array.ext (by omega)
   intro i h1 h2
   have:=hg.old i h2
   rw [Array.getElem?_eq_getElem h1,Array.getElem?_eq_getElem h2] at this
   exact Option.some.inj this
  have x:=Ext.same K hg.drawn hh hg.tape hg.os hg.output H.bo H.bt
  exact ⟨hr.same hh x,x⟩
theorem za1 {f:FuncId} {fn:Func} {c:Code} (hf:P.funcs[f]?=some fn) (hname:(fn.name == "runtime.NumGoroutine")=false) (hb:fn.body=some c) {us:Array Value} {v:GV} {H':GH}
 (h:Calls P f us K.w fun e w'=>∃ rv K',e=.returned rv∧w'=K'.w∧HR ro K' H'∧VR K' v rv∧Ext (fun _=>False) H.bo H.bt K K'):zlt P ro K H f us v H':=by
 intro o a next Q hn
 rw [zid hf hname hb,Oper.upon_enter]
 refine h.mono fun e w' he=>?_
 obtain ⟨rv,K',rfl,rfl,h1,h2,h3⟩:=he
 exact hn rv K' h1 h2 h3
structure HasBody (P:Program) (f:FuncId):Prop where
 ex:∃ fn c,P.funcs[f]?=some fn∧(fn.name == "runtime.NumGoroutine")=false∧fn.body=some c
theorem zjx:∀ (xs:List GV) (l:List ByteArray),zhN xs=some l→xs=l.map .str
 | [],l,h=>by simp [zhN] at h; subst h; rfl
 | x::xs,l,h=>by
  cases x <;> simp only [zhN] at h <;> try (cases h; done)
  simp only [Option.map_eq_some_iff] at h
  obtain ⟨l',h1,rfl⟩:=h
  rw [zjx xs l' h1]
  rfl
theorem CR.one {u:GV} {us:Array Value} (h:CR K [u] us):∃ a,us = #[a]∧VR K u a:=by
 obtain ⟨h1,h2⟩:=h
 obtain ⟨us⟩:=us
 match us,h1 with
 | [a],_=>exact ⟨a,rfl,h2 0 u a rfl rfl⟩
theorem CR.two {u v:GV} {us:Array Value} (h:CR K [u,v] us):∃ a b,us = #[a,b]∧VR K u a∧VR K v b:=by
 obtain ⟨h1,h2⟩:=h
 obtain ⟨us⟩:=us
 match us,h1 with
 | [a,b],_=>exact ⟨a,b,rfl,h2 0 u a rfl rfl,h2 1 v b rfl rfl⟩
theorem zf3 {f:FuncId} {F:IFun} (hm:F.mode<20) (h:∀ args H v,zmI F args H=some v→oks args=true→∀ K us,HR P.globals.size K H→CR K args us→zlt P P.globals.size K H f us v H):zcO P f F:=by
 intro args H v H' hv
 unfold ziz at hv
 rw [if_pos hm] at hv
 simp only [Option.map_eq_some_iff,Prod.mk.injEq] at hv
 obtain ⟨v',hv',rfl,rfl⟩:=hv
 exact h args H v' hv'
theorem HR.facts (hr:HR ro K H):Facts.D K.w:=hr.dat K.w (fun _ _=>rfl)
theorem zwJ (hmono:¬ Facts.mono) {f:FuncId} {F:IFun} (hF:F.mode=10) (hb:HasBody P f)
 (h0:∀ (a:Option Addr) (c:Nat) (sep:ByteArray) (w:World),Calls P f #[.slice a 0 c,.string sep] w fun e w'=>e=.returned (.string ⟨#[]⟩)∧w'=w)
 (h1:∀ (bk o c:Nat) (xs:List ByteArray) (sep:ByteArray) (w:World),(∀ (j:Nat) x,xs[j]?=some x→w.cell? ⟨bk,o+j,none⟩=some (.string x))→bk<w.heap.size→xs.length≤140737488355328→xs.length≤c →
   (Lib.join (xs.map (·.data.toList)) sep.data.toList).length≤140737488355328 →
   Calls P f #[.slice (some ⟨bk,o,none⟩) xs.length c,.string sep] w fun e w'=>e=.returned (.string ⟨(Lib.join (xs.map (·.data.toList)) sep.data.toList).toArray⟩)∧Below w.heap.size w w'):zcO P f F:=by
 refine zf3 (by omega) fun args H v hv hok K us hr hc=>?_
 obtain ⟨fn,c,b1,b2,b3⟩:=hb.ex
 refine za1 b1 b2 b3 ?_
 have done0:∀ (a:Option Addr) (c:Nat) (sep:ByteArray),Calls P f #[.slice a 0 c,.string sep] K.w fun e w'=>∃ rv K',e=.returned rv∧w'=K'.w∧HR P.globals.size K' H∧VR K' (.str ⟨#[]⟩) rv∧Ext (fun _=>False) H.bo H.bt K K':=by
  intro a c sep
  refine (h0 a c sep K.w).mono fun e w' he=>?_
  obtain ⟨rfl,rfl⟩:=he
  exact ⟨_,K,rfl,rfl,hr,.str _,.refl _ _ _ _⟩
 simp only [zmI,hF] at hv
 unfold zxY at hv
 split at hv
 ·rename_i sep
  injection hv with hv; subst hv
  obtain ⟨a,b,rfl,ha,hb'⟩:=hc.two
  cases ha; cases hb'
  exact done0 _ _ _
 ·rename_i sz xs tag sep
  simp only [Option.bind_eq_some_iff] at hv
  obtain ⟨l,hl,hv⟩:=hv
  split at hv
  ·rename_i hlen
   injection hv with hv; subst hv
   obtain ⟨a,b,rfl,ha,hb'⟩:=hc.two
   cases hb'
   have hxs:=zjx xs l hl
   subst hxs
   have empty:l=[]→Lib.join (l.map (·.data.toList)) sep.data.toList=[]:=by rintro rfl; rfl
   generalize hz:l.map GV.str=zs at ha hlen
   cases ha with
   | emp a =>
    have hl0:l=[]:=by simpa using hz
    rw [empty hl0]
    exact done0 _ _ _
   | @sl _ _ _ bk off cap cv hcap hmax hsz hI hvv htag =>
    subst hz
    by_cases hl0:l=[]
    ·rw [empty hl0]
     subst hl0
     exact done0 _ _ _
    ·have hcell:∀ (j:Nat) x,l[j]?=some x→K.w.cell? ⟨bk,off+j,none⟩=some (.string x)∧bk<K.w.heap.size:=by
      intro j x hx
      have hg:(l.map GV.str)[j]?=some (.str x):=by simp [hx]
      have h5:=hsz _ (List.mem_of_getElem? hg)
      have h6:sz=1:=h5.1.symm
      subst h6
      obtain ⟨i1,i2⟩:=hI j _ 0 _ hg rfl
      have i3:=hvv j _ 0 _ hg rfl
      rw [Nat.mul_one,Nat.add_zero] at i2
      rw [i2]
      cases hcv:cv j 0 <;> rw [hcv] at i3 <;> cases i3
      exact ⟨rfl,i1.1⟩
     obtain ⟨x0,hx0⟩:∃ x0,l[0]?=some x0:=by
      cases l with
      | nil=>exact absurd rfl hl0
      | cons a t=>exact ⟨a,rfl⟩
     have hc1:=h1 bk off cap l sep K.w (fun j x hx=>(hcell j x hx).1) (hcell 0 x0 hx0).2 (by simpa using hlen.1) (by simpa using hcap) hlen.2
     rw [List.length_map]
     refine hc1.mono fun e w' he=>?_
     obtain ⟨rfl,hbel⟩:=he
     obtain ⟨g1,g2⟩:=zer hr (zdO hbel (fun h=>absurd h hmono))
     exact ⟨_,K.at w',rfl,rfl,g1,.str _,g2⟩
  ·cases hv
 ·cases hv
theorem ztK {f:FuncId} {F:IFun} (hF:F.mode=11) (hb:HasBody P f) {t:TypeId}
 (h1:∀ (s sep:ByteArray) (w:World),Facts.D w→s.size<4294967281→1≤sep.size →
   Calls P f #[.string s,.string sep] w fun e w'=>e=.returned (.slice (some ⟨w.heap.size,0,none⟩) (Lib.countB s sep+1) (Lib.countB s sep+1))∧w'=w.alloc (.cells ((Lib.splitB sep 0 (Lib.countB s sep) s).map Value.string).toArray t)):zcO P f F:=by
 refine zf3 (by omega) fun args H v hv hok K us hr hc=>?_
 obtain ⟨fn,c,b1,b2,b3⟩:=hb.ex
 refine za1 b1 b2 b3 ?_
 simp only [zmI,hF] at hv
 unfold zsx at hv
 split at hv
 ·rename_i s sep
  split at hv
  ·rename_i hcond
   injection hv with hv; subst hv
   obtain ⟨a,b,rfl,ha,hb'⟩:=hc.two
   cases ha; cases hb'
   obtain ⟨c1,c2⟩:=hcond
   refine (h1 s sep K.w hr.facts c1 c2).mono fun e w' he=>?_
   obtain ⟨rfl,rfl⟩:=he
   have hlen:=Lib.splitB_all sep c2 0 _ s rfl
   have hgrow:WGrow K.w (K.w.alloc (.cells ((Lib.splitB sep 0 (Lib.countB s sep) s).map Value.string).toArray t)):=zdO ((Below.refl _ _).alloc (Nat.le_refl _) _) (fun _=>Nat.le_refl _)
   obtain ⟨g1,g2⟩:=zer hr hgrow
   have hnew:(K.w.alloc (.cells ((Lib.splitB sep 0 (Lib.countB s sep) s).map Value.string).toArray t)).heap[K.w.heap.size]?=some (.cells ((Lib.splitB sep 0 (Lib.countB s sep) s).map Value.string).toArray t (0,0)):=by
    show (K.w.heap.push _)[_]?=_
    simp
   refine ⟨_,_,rfl,rfl,g1, ?_,g2⟩
   have hmaxl:(Lib.splitB sep 0 (Lib.countB s sep) s).length≤maxLen:=by
    rw [hlen]
    have:=Lib.countB_le sep c2 s.size s (Nat.le_refl _)
    unfold maxLen
    omega
   have:=VR.sl (K:=K.at (K.w.alloc (.cells ((Lib.splitB sep 0 (Lib.countB s sep) s).map Value.string).toArray t))) (sz:=1) (xs:=(Lib.splitB sep 0 (Lib.countB s sep) s).map GV.str) (tag:=.exact) (b:=K.w.heap.size) (off:=0) (cap:=Lib.countB s sep+1)
    (cv:=fun i j=>((Lib.splitB sep 0 (Lib.countB s sep) s).map Value.string).getD i undef) (by simp [hlen]) (by rw [← hlen]; exact hmaxl)
    (fun x hx=>by
      obtain ⟨y,_,rfl⟩:=List.mem_map.1 hx
      exact ⟨rfl,rfl⟩)
    (fun i x j c hx hj=>by
      simp only [List.getElem?_map,Option.map_eq_some_iff] at hx
      obtain ⟨y,hy,rfl⟩:=hx
      cases j with
      | succ j=>cases j <;> cases hj
      | zero =>
       refine ⟨⟨by show K.w.heap.size<(K.w.heap.push _).size; simp,fun h=>?_,fun id h=>?_,fun t ti h e=>?_⟩, ?_⟩
       ·have:=(hr.loc _ h).2; omega
       ·have:=(hr.dom id _ h).2.1; omega
       ·have:=(hr.tok t ti h).2.1; omega
       ·show World.cell? _ _=_
        simp only [World.cell?,Ctx.at,hnew]
        simp [hy])
    (fun i x j c hx hj=>by
      simp only [List.getElem?_map,Option.map_eq_some_iff] at hx
      obtain ⟨y,hy,rfl⟩:=hx
      cases j with
      | succ j=>cases j <;> cases hj
      | zero =>
       cases hj
       simp only [List.getD,List.getElem?_map,hy,Option.map_some,Option.getD_some]
       exact .str y)
    (by simp [TagOk,hlen])
   rw [List.length_map,hlen] at this
   exact this
  ·cases hv
 ·cases hv
theorem zwK {f:FuncId} {F:IFun} (hF:F.mode=12) (hb:HasBody P f)
 (h1:∀ (n:Int) (w:World),Facts.D w→-9223372036854775808≤n→n≤9223372036854775807 →
   Calls P f #[.int .i64 n] w fun e w'=>e=.returned (.string ⟨(Lib.itoa n).toArray⟩)∧WGrow w w'):zcO P f F:=by
 refine zf3 (by omega) fun args H v hv hok K us hr hc=>?_
 obtain ⟨fn,c,b1,b2,b3⟩:=hb.ex
 refine za1 b1 b2 b3 ?_
 simp only [zmI,hF] at hv
 unfold zxZ at hv
 split at hv
 ·split at hv
  ·rename_i n hn
   injection hv with hv; subst hv
   obtain ⟨a,rfl,ha⟩:=hc.one
   cases ha
   refine (h1 n K.w hr.facts hn.1 hn.2).mono fun e w' he=>?_
   obtain ⟨rfl,hg⟩:=he
   obtain ⟨g1,g2⟩:=zer hr hg
   exact ⟨_,K.at w',rfl,rfl,g1,.str _,g2⟩
  ·cases hv
 ·cases hv
theorem VR.some (K:Ctx) (b o:Nat):VR K (.el [] 0) (.pointer (some ⟨b,o,none⟩)) :=
 .el (base:=o) (cv:=fun _=>undef) rfl (fun j c h=>by cases h) (fun j c h=>by cases h)
theorem zwL {f:FuncId} {F:IFun} (hF:F.mode=20) (hb:HasBody P f)
 (h1:∀ (b:Nat) (w:World),w.cell? ⟨b,0,none⟩=some (.pointer (some ⟨b,0,none⟩))→Calls P f #[.pointer (some ⟨b,0,none⟩)] w fun e w'=>e=.returned (.tuple #[])∧w'=w)
 (h2:∀ (b:Nat) (w:World),w.cell? ⟨b,0,none⟩=some (.pointer none)→w.shape? b=some (F.ro,2)→w.frozen? ⟨b,0,none⟩=false →
   Calls P f #[.pointer (some ⟨b,0,none⟩)] w fun e w'=>e=.returned (.tuple #[])∧w'=w.setCell ⟨b,0,none⟩ (.pointer (some ⟨b,0,none⟩))):zcO P f F:=by
 intro args H v H' hv hok K us hr hc
 obtain ⟨fn,c,b1,b2,b3⟩:=hb.ex
 refine za1 b1 b2 b3 ?_
 unfold ziz at hv
 rw [if_neg (by omega)] at hv
 simp only [zw8,hF] at hv
 unfold zsy at hv
 split at hv
 ·rename_i id
  obtain ⟨a,rfl,ha⟩:=hc.one
  split at hv
  ·rename_i t x ho
   split at hv
   ·rename_i hcond
    obtain ⟨rfl,hbo⟩:=hcond
    injection hv with hv; injection hv with hv1 hv2; subst hv1; subst hv2
    obtain ⟨b,vs,elem,fr,q1,q2,⟨rfl,q3⟩,q4,q5⟩:=hr.obj id _ ho
    have:=q3 (Nat.le_trans hr.bo hbo)
    subst this
    cases ha with
    | @ptr _ _ b' o' hid hpp =>
    obtain ⟨rfl,rfl⟩:=hpp b q1
    have hvs:vs.size=2:=by rw [← q4]; rfl
    obtain ⟨v0,hv0⟩:∃ v0,vs[0]?=some v0:=⟨vs[0]'(by omega),by simp⟩
    have hn:=q5 0 _ v0 rfl hv0
    cases hn
    refine (h2 b K.w (by simp [World.cell?,q2,hv0]) (by simp [World.shape?,q2,hvs]) (by simp [World.frozen?,q2])).mono fun e w' he=>?_
    obtain ⟨rfl,rfl⟩:=he
    have hle:0+[Value.pointer (some ⟨b,0,none⟩)].length≤vs.size:=by simp [hvs]
    have hw:WSet K.w (K.w.setCell ⟨b,0,none⟩ (.pointer (some ⟨b,0,none⟩))) b:=zaV (us:=[.pointer (some ⟨b,0,none⟩)]) q2 hle
    obtain ⟨⟨cur',c1,c2,c3⟩,_⟩:=zaH b [.pointer (some ⟨b,0,none⟩)] 0 K.w vs F.ro (0,0) q2 hle
    have x0:Ext (fun _=>False) H.bo H.bt K (K.at (K.w.setCell ⟨b,0,none⟩ (.pointer (some ⟨b,0,none⟩)))):=(hr.obj_set q1 hbo hw (o:=.dead) trivial).2
    obtain ⟨hr',x1⟩:=hr.obj_set q1 hbo hw (o:=.cells F.ro [.ptr id 0,x]) ⟨b,cur',F.ro,(0,0),q1,c1,⟨rfl,fun _=>rfl⟩,by rw [c2,hvs]; rfl,fun i c v hc hv=>by
     rw [c3 i] at hv
     match i,hc,hv with
     | 0,hc,hv =>
      injection hc with hc; subst hc
      have hv:v=.pointer (some ⟨b,0,none⟩):=by simpa using hv.symm
      subst hv
      exact .ptr hid (fun c h=>by have h:K.φ id=some c:=h; rw [q1] at h; injection h with h; exact ⟨h.symm,rfl⟩)
     | 1,hc,hv =>
      have hv:vs[1]?=some v:=by simpa using hv
      exact (q5 1 _ v hc hv).ext x0
     | i+2,hc,_=>cases hc⟩
    exact ⟨_,_,rfl,rfl,hr',.tup rfl (fun i c v hc=>by cases hc),x1⟩
   ·cases hv
  ·rename_i t i x ho
   split at hv
   ·rename_i hi
    subst hi
    injection hv with hv; injection hv with hv1 hv2; subst hv1; subst hv2
    obtain ⟨b,vs,elem,fr,q1,q2,q3,q4,q5⟩:=hr.obj i _ ho
    cases ha with
    | @ptr _ _ b' o' hid hpp =>
    obtain ⟨rfl,rfl⟩:=hpp b q1
    have hvs:vs.size=2:=by rw [← q4]; rfl
    obtain ⟨v0,hv0⟩:∃ v0,vs[0]?=some v0:=⟨vs[0]'(by omega),by simp⟩
    have hn:=q5 0 _ v0 rfl hv0
    cases hn with
    | @ptr _ _ b' o' hid' hpp' =>
    obtain ⟨rfl,rfl⟩:=hpp' b q1
    refine (h1 b K.w (by simp [World.cell?,q2,hv0])).mono fun e w' he=>?_
    obtain ⟨rfl,rfl⟩:=he
    exact ⟨_,K,rfl,rfl,hr,.tup rfl (fun i c v hc=>by cases hc),.refl _ _ _ _⟩
   ·cases hv
  ·cases hv
 ·cases hv
theorem HR.frz (hr:HR ro K H) {t:Nat} {ti:Tok} (ht:K.τ t=some ti) (hbt:H.bt≤t) {w':World} (h:WSet K.w w' ti.b) {cur:Array Value} {fr:Nat × Nat} {lo' hi':Nat} (h1:K.w.heap[ti.b]?=some (.cells cur ti.elem fr))
 (h2:w'.heap[ti.b]?=some (.cells cur ti.elem (lo',hi'))) (h3:lo'=hi'∨hi'≤ti.fend):HR ro (K.at w') H∧Ext (fun _=>False) H.bo H.bt K (K.at w'):=by
 obtain ⟨t1,t2,t3,t4,t5,cur0,lo,hi,t6,t7,t8,t9⟩:=hr.tok t ti ht
 have hcur:cur0=cur:=by rw [h1] at t6; injection t6 with t6; injection t6 with t6; exact t6.symm
 subst hcur
 have hcell:∀ b o,w'.cell? ⟨b,o,none⟩=K.w.cell? ⟨b,o,none⟩:=by
  intro b o
  by_cases hb:b=ti.b
  ·subst hb; simp [World.cell?,h1,h2]
  ·exact h.cell hb
 have hφ:∀ id c,K.φ id=some c→c≠ti.b:=fun id c hc e=>t5 id (e ▸ hc)
 have x:Ext (fun _=>False) H.bo H.bt K (K.at w') :=
  { N:=rfl,nO:=Nat.le_refl _,size:=by show K.w.heap.size≤w'.heap.size; rw [h.size]; exact Nat.le_refl _,tape:=h.tape,os:=h.os,output:=h.output,drawn:=h.drawn,φ:=fun _ _ _ h=>h,κ:=fun _ _=>rfl,
    imm:=fun b o hi=>⟨⟨by show b<w'.heap.size; rw [h.size]; exact hi.1,hi.2.1,hi.2.2.1,hi.2.2.2⟩,hcell b o⟩,
    loc:=fun b hb=>⟨hb,fun _=>h.old b (fun e=>t4 (e ▸ hb))⟩,below:=fun b hb=>h.old b (fun e=>by omega),
    tok:=fun _ p h=>⟨p,h,Nat.le_refl _,fun _=>rfl⟩,prot:=fun id _ _=>⟨rfl,fun c hc=>h.old c (hφ id c hc)⟩,
    protT:=fun t' ht' _=>⟨rfl,rfl,fun tj htj=>h.old tj.b (fun e=>by have:=hr.tinj t' t tj ti htj ht e; omega)⟩ }
 have hr':HR ro (K.at w') H :=
  { nO:=hr.nO,toks:=hr.toks,bo:=hr.bo,bt:=hr.bt
    obj:=fun id o ho=>(hr.obj id o ho).ext x rfl (fun c hc=>h.old c (hφ id c hc))
    inj:=hr.inj
    dom:=by
     intro id c hc
     obtain ⟨d1,d2,d3,d4⟩:=hr.dom id c hc
     exact ⟨d1,by show c<w'.heap.size; rw [h.size]; exact d2,d3,d4⟩
    glob:=hr.glob,roN:=hr.roN
    tok:=by
     intro t' tj htj
     obtain ⟨a1,a2,a3,a4,a5,c,lo2,hi2,a6,a7,a8,a9⟩:=hr.tok t' tj htj
     refine ⟨a1,by show tj.b<w'.heap.size; rw [h.size]; exact a2,a3,a4,a5, ?_⟩
     by_cases he:t'=t
     ·subst he
      have:tj=ti:=by have htj:K.τ t'=some tj:=htj; rw [ht] at htj; injection htj with htj; exact htj.symm
      subst this
      exact ⟨_,_,_,h2,a7,t8,h3⟩
     ·exact ⟨_,_,_,(h.old tj.b (fun e=>he (hr.tinj t' t tj ti htj ht e))).trans a6,a7,a8,a9⟩
    tinj:=hr.tinj
    size:=by show K.N≤w'.heap.size; rw [h.size]; exact hr.size
    loc:=by
     intro b hb
     show K.N≤b∧b<w'.heap.size
     rw [h.size]; exact hr.loc b hb
    dat:=hr.to rfl x.below }
 exact ⟨hr',x⟩
theorem zqp (hmono:¬ Facts.mono) {w:World} {d b off n:Nat} {cur:Array Value} {e:TypeId} {lo hi:Nat} (h:w.heap[b]?=some (.cells cur e (lo,hi))) (hn:n≠0) :
 WSet w (World.freeze { w with drawn:=d } ⟨b,off,none⟩ n) b∧(World.freeze { w with drawn:=d } ⟨b,off,none⟩ n).heap[b]?=some (.cells cur e (if lo == hi then (off,off+n) else (min lo off,max hi (off+n)))):=by
 unfold World.freeze
 rw [if_neg hn]
 refine ⟨⟨by simp,rfl,rfl,rfl,fun k hk=>by simp [Array.getElem?_modify,Ne.symm hk],fun h=>absurd h hmono⟩, ?_⟩
 simp [Array.getElem?_modify,h]
theorem zih:∀ (xs:List GV) (l:List UInt8),ze9 xs=some l→xs=l.map fun b=>.int .u8 b.toNat
 | [],l,h=>by simp [ze9] at h; subst h; rfl
 | x::xs,l,h=>by
  unfold ze9 at h
  split at h
  ·cases ‹_::_=[]›
  ·rename_i n ys he
   injection he with he1 he2
   subst he1; subst he2
   split at h
   ·rename_i hn
    simp only [Option.map_eq_some_iff] at h
    obtain ⟨l',h1,rfl⟩:=h
    rw [zih xs l' h1]
    simp only [List.map_cons,List.cons.injEq,and_true,GV.int.injEq,true_and]
    have:(UInt8.ofNat n.toNat).toNat=n.toNat:=by simp [UInt8.toNat_ofNat']; omega
    rw [this]; omega
   ·cases h
  ·cases h
theorem ztL (hmono:¬ Facts.mono) {f:FuncId} {F:IFun} (hF:F.mode=17) (hb:HasBody P f)
 (h0:∀ (b:Nat) (w:World),w.cell? ⟨b,1,none⟩=some (.slice none 0 0)→Calls P f #[.pointer (some ⟨b,0,none⟩)] w fun e w'=>e=.returned (.string ⟨#[]⟩)∧WGrow w w')
 (h1:∀ (b g off cap n:Nat) (l:List UInt8) (w:World),w.cell? ⟨b,1,none⟩=some (.slice (some ⟨g,off,none⟩) l.length cap)→l≠[]→l.length≤cap→cap≤maxLen→w.shape? g=some (F.ro,n)→off+cap≤n →
   (∀ j x,l[j]?=some x→w.cell? ⟨g,off+j,none⟩=some (.int .u8 x.toNat)) →
   Calls P f #[.pointer (some ⟨b,0,none⟩)] w fun e w'=>e=.returned (.string ⟨l.toArray⟩)∧∃ d,w'=World.freeze { w with drawn:=d } ⟨g,off,none⟩ l.length):zcO P f F:=by
 refine zf3 (by omega) fun args H v hv hok K us hr hc=>?_
 obtain ⟨fn,c,b1,b2,b3⟩:=hb.ex
 refine za1 b1 b2 b3 ?_
 simp only [zmI,hF] at hv
 unfold znX at hv
 split at hv
 ·rename_i id
  obtain ⟨a,rfl,ha⟩:=hc.one
  split at hv
  ·rename_i t y ho
   injection hv with hv; subst hv
   obtain ⟨b,vs,elem,fr,q1,q2,q3,q4,q5⟩:=hr.obj id _ ho
   cases ha with
   | @ptr _ _ b' o' hid hpp =>
   obtain ⟨rfl,rfl⟩:=hpp b q1
   have hvs:vs.size=2:=by rw [← q4]; rfl
   obtain ⟨v1,hv1⟩:∃ v1,vs[1]?=some v1:=⟨vs[1]'(by omega),by simp⟩
   have hn:=q5 1 _ v1 rfl hv1
   cases hn
   refine (h0 b K.w (by simp [World.cell?,q2,hv1])).mono fun e w' he=>?_
   obtain ⟨rfl,hg⟩:=he
   obtain ⟨g1,g2⟩:=zer hr hg
   exact ⟨_,K.at w',rfl,rfl,g1,.str _,g2⟩
  ·rename_i t y x xs tk pos ty ho
   split at hv
   ·rename_i hcond
    obtain ⟨rfl,hT,hbt⟩:=hcond
    simp only [Option.map_eq_some_iff] at hv
    obtain ⟨l,hl,rfl⟩:=hv
    obtain ⟨b,vs,elem,fr,q1,q2,q3,q4,q5⟩:=hr.obj id _ ho
    cases ha with
    | @ptr _ _ b' o' hid hpp =>
    obtain ⟨rfl,rfl⟩:=hpp b q1
    have hvs:vs.size=2:=by rw [← q4]; rfl
    obtain ⟨v1,hv1⟩:∃ v1,vs[1]?=some v1:=⟨vs[1]'(by omega),by simp⟩
    have hn:=q5 1 _ v1 rfl hv1
    have hxs:=zih _ l hl
    have hl0:l≠[]:=by rintro rfl; cases hxs
    generalize x::xs=zs at hn hxs hl
    cases hn with
    | emp _ htt=>rcases htt with h | h <;> cases h
    | @sl _ _ _ g off cap cv hcap hmax hsz hI hvv htag =>
     subst hxs
     rw [List.length_map] at hcap htag
     obtain ⟨hN,hpos,p,hp1,hp2,hp3⟩:=htag
     rw [hr.toks] at hT
     have hpp':pos=p:=by rw [hT] at hp1; injection hp1
     rcases hp3 hpp' with ⟨_,h⟩ | ⟨ti,e1,e2,e3,e4,e5⟩
     ·exact absurd (List.length_eq_zero_iff.1 h) hl0
     ·subst e2
      have ety:ti.elem=F.ro:=e5 _ rfl
      obtain ⟨t1,t2,t3,t4,t5,cur,lo,hi,t6,t7,t8,t9⟩:=hr.tok tk ti e1
      have hcell:∀ j x,l[j]?=some x→K.w.cell? ⟨ti.b,off+j,none⟩=some (.int .u8 x.toNat):=by
       intro j x hx
       have hg:(l.map fun b:UInt8=>GV.int .u8 b.toNat)[j]?=some (.int .u8 x.toNat):=by simp [hx]
       obtain ⟨_,i2⟩:=hI j _ 0 _ hg rfl
       have i3:=hvv j _ 0 _ hg rfl
       rw [Nat.mul_one,Nat.add_zero] at i2
       rw [i2]
       generalize cv j 0=u at i3
       cases i3
       rfl
      rw [List.length_map] at hv1
      refine (h1 b ti.b off cap cur.size l K.w (by simp [World.cell?,q2,hv1]) hl0 hcap hmax (by simp [World.shape?,t6,ety]) (by omega) hcell).mono fun e w' he=>?_
      obtain ⟨rfl,d,rfl⟩:=he
      have hln:l.length≠0:=fun h=>hl0 (List.length_eq_zero_iff.1 h)
      obtain ⟨f1,f2⟩:=zqp hmono (d:=d) (off:=off) t6 hln
      have hsplit:∃ lo' hi',(if lo == hi then (off,off+l.length) else (min lo off,max hi (off+l.length)))=(lo',hi')∧(lo'=hi'∨hi'≤ti.fend):=by
       by_cases he:lo=hi
       ·exact ⟨off,off+l.length,by simp [he],.inr (by omega)⟩
       ·exact ⟨min lo off,max hi (off+l.length),by simp [he],.inr (by rcases t9 with t9 | t9 <;> omega)⟩
      obtain ⟨lo',hi',g1,g2⟩:=hsplit
      rw [g1] at f2
      obtain ⟨z1,z2⟩:=hr.frz e1 hbt f1 t6 f2 g2
      exact ⟨_,_,rfl,rfl,z1,.str _,z2⟩
   ·cases hv
  ·cases hv
 ·cases hv
end
end Go.Sh
namespace Go.Sh
section
variable {P:Program} (w:World)
theorem zqq {e:TypeId} (hc:P.cellsOf e=1) (count off n:Nat) (hn:off+n≤count):liesAt P P.depth e count off e n=true:=by
 have hd:P.depth=(2 * (P.types.size+Made.depth)+1)+1:=rfl
 rw [hd]
 simp only [liesAt,Bool.or_eq_true]
 left
 rw [hd]
 simp [rowAt,hc,hn,sameLayout,Nat.mod_one]
theorem zeV (pt it ty e:TypeId) (hp:P.underlying pt=some (.pointer e)) (hc:P.cellsOf e=1) (g off cells:Nat) (hsh:w.shape? g=some (e,cells)) (l:List UInt8) (h0:l≠[]) (hn:off+l.length≤cells) (h63:l.length≤9223372036854775807)
 (hcell:∀ j x,l[j]?=some x→w.cell? ⟨g,off+j,none⟩=some (.int .u8 x.toNat)) :
 (Builtin.unsafeString_ #[pt,it] ty #[.pointer (some ⟨g,off,none⟩),.int .i64 l.length]).run P w=.ok (.string ⟨l.toArray⟩) (w.freeze ⟨g,off,none⟩ l.length):=by
 have hl:l.length≠0:=by simpa using h0
 have hlb:=Lib.run_loadBytes (P:=P) w l ⟨g,off,none⟩ .empty (fun j x hx=>by
  have:=hcell j x hx
  simp only [Addr.add]
  split
  ·rename_i h; subst h; simpa using this
  ·simpa using this)
 have hlies:=zqq (P:=P) hc (cells / P.cellsOf e) off l.length (by rw [hc]; simpa using hn)
 have h63':¬ (9223372036854775807:Int)<(l.length:Int):=by omega
 obtain ⟨msg,hdef⟩:∃ msg,Builtin.unsafeString_ #[pt,it] ty #[.pointer (some ⟨g,off,none⟩),.int .i64 l.length] =
  (do
    let n ← asInt (.int .i64 l.length)
    if n<0 then runtimePanic (.error msg)
    if n > IntKind.i64.max then unsupported (.unsafePointer "String: a length above the largest int")
    if n=0 then pure (.string .empty)
    else if ← variablesAt ⟨g,off,none⟩ (← elemOf pt) n.toNat then do
     let s ← loadBytes ⟨g,off,none⟩ .empty n.toNat
     freeze ⟨g,off,none⟩ n.toNat
     pure (.string s)
    else unsupported (.unsafePointer "String: not so many bytes at ptr")):=⟨_,rfl⟩
 rw [hdef]
 have hmax:IntKind.i64.max=9223372036854775807:=rfl
 have hneg:¬ (l.length:Int)<0:=by omega
 simp [asInt,asIntOf,hmax,h63',hneg,hl,variablesAt,hsh,elemOf,run_underlying hp,hlies,hlb]
end
variable [Facts]
section
variable {P:Program}
end
end Go.Sh
