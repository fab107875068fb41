/- Own work: the zaG machine and what it shows, part Pu. -/
import Derived.Test.YtchjbidfmhmmhaaGreatDoorEv
set_option linter.all false
namespace Go.Proofs.YtchjbidfmhmmhaaGreatDoor
open Go.Sh
set_option maxRecDepth 100000
abbrev kLs:List Leaf:=[.int .i64,.str,.str,.str,.str]
abbrev elG (x:El):GV:=.agg (elC x)
abbrev zbX (x:Ent):GV:=.agg (zcY x)
structure ElRange (x:El):Prop where
 k1 : -9223372036854775808≤x.k
 k2:x.k≤9223372036854775807
theorem zfE {x:El} (h:ElFit x) (hr:ElRange x):zaA true kLs (elG x)=true:=by
 obtain ⟨h1,h2⟩:=hr
 have:=h.a; have:=h.b; have:=h.c; have:=h.d
 simp [zaA,elC,zat,maxLen,IntKind.min,IntKind.max,IntKind.signed,IntKind.bits]
 omega
structure EntFit (x:Ent):Prop where
 n1 : -9223372036854775808≤x.n
 n2:x.n≤9223372036854775807
theorem zsn (H:GH):ecall T zoE [] H=some (.ptr (H.objs.length+1) 0,{ H with objs:=H.objs++[.map true kLs [],.cells 92 [.map H.objs.length]] }):=by
 apply optW.eq
 rw [zad zCt rfl (by simp [zrb]),zab]
 simp [zrb,zzG,za6,zae,GH.newObj]
def znW (x:El) (e:Ent):Bool:=zeW e.r e.c&&zky (if x.k=4∨x.k=5 then 3 else 1) x e.k e.n e.t
def zbu (L:List Ent):List GV:=(L.map zbX).flatMap GV.cells
def zaE (L:List Ent) (H:GH):GH:=if L=[] then H else { H with objs:=H.objs++[.row 96 (zbu L)] }
def CloneV (L:List Ent) (H:GH) (v':GV):Prop:=(L=[]∧(v'=.nilsl∨v'=.sl 5 [] .exact))∨(L≠[]∧v'=.hsl H.objs.length 0 L.length 5 false)
theorem CloneV.elems {L:List Ent} {H:GH} {v':GV} (h:CloneV L H v'):(L=[]∧Elems 5 v' [])∨(L≠[]∧v'=.hsl H.objs.length 0 L.length 5 false):=by
 rcases h with ⟨h,rfl | rfl⟩ | h
 ·exact .inl ⟨h,.nil⟩
 ·exact .inl ⟨h,.sl _ _⟩
 ·exact .inr h
def zbY (L:List Ent) (H:GH):GH:=if L=[] then H else { H with objs:=H.objs++[.dead] }
theorem zfF (L:List Ent) (v:GV) (hv:Elems 5 v (L.map zbX)) (hL:L.length≤1000000) (H:GH) :
 ∃ v',ecall T ziB [v] H=some (v',zaE L H)∧CloneV L H v':=by
 have key:optW (ecall T ziB [v] H) fun r=>CloneV L H r.1∧r.2=zaE L H:=by
  rw [zad zCI rfl (by simp [zml]),zab]
  cases L with
  | nil =>
   generalize hz:([]:List Ent).map zbX=z at hv
   cases hv with
   | nil => 
    simp [zml,zve]
    exact ⟨.inl ⟨rfl,.inl rfl⟩,rfl⟩
   | sl xs t =>
    simp at hz; subst hz
    simp [zml,zve,zaj,za9,zbK]
    exact ⟨.inl ⟨rfl,.inr (by simp [zeZ])⟩,rfl⟩
  | cons y L =>
   generalize hz:(y::L).map zbX=z at hv
   cases hv with
   | nil=>cases hz
   | sl xs t =>
    subst hz
    have h1:(((y::L).map zbX).length * 48≤room∧((y::L).map zbX).length≤maxLen):=by
     simp only [List.length_map]
     simp only [List.length_cons] at hL
     simp [room,maxLen]; omega
    have ha:za9 H 96 5 48 (.sl 5 [] .exact) (.sl 5 ((y::L).map zbX) t)=some (.hsl H.objs.length 0 ((y::L).map zbX).length 5 false,H.newObj (.row 96 (((y::L).map zbX).flatMap GV.cells))):=by
     simp only [za9,zbK,if_true,Option.bind_some]
     rw [if_neg (by simp),if_neg (by simp),if_pos (by simp),if_pos h1]
    simp only [List.map_cons] at ha
    simp [zml,zve,zaj,ha]
    exact ⟨.inr ⟨by simp,by simp⟩,by simp [zaE,GH.newObj,zbu]⟩
 obtain ⟨⟨v',H'⟩,h1,h2,h3⟩:=key
 simp only at h3
 subst h3
 exact ⟨v',h1,h2⟩
theorem zcv (L:List Ent):(zbu L).length=L.length * 5:=by
 induction L with
 | nil=>rfl
 | cons e L ih=>simp [zbu] at ih ⊢; simp [zcY,ih]; omega
theorem zhh (L:List Ent):(zbu L).all GV.one=true:=by
 induction L with
 | nil=>rfl
 | cons e L ih=>simp [zbu] at ih ⊢; refine ⟨?_,ih⟩; simp [zcY,GV.one]
theorem zdC (L:List Ent):za4 5 L.length (zbu L)=L.map zbX:=by
 induction L with
 | nil=>rfl
 | cons e L ih =>
  have:zbu (e::L)=zcY e++zbu L:=by simp [zbu]
  rw [this]
  simp only [List.length_cons,za4,List.map_cons]
  have e1:(zcY e++zbu L).take 5=zcY e:=by simp [zcY]
  have e2:(zcY e++zbu L).drop 5=zbu L:=by simp [zcY]
  rw [e1,e2,ih]
  rfl
theorem zhi {α:Type} (l:List α) (x y:α):(l++[x]).set l.length y=l++[y]:=by
 induction l with
 | nil=>rfl
 | cons a l ih=>simp
theorem zpe {L:List Ent} {H:GH} {v':GV} (h:CloneV L H v') (hbo:H.bo≤H.objs.length):∃ v'',zaR (zaE L H) [v']=some (v'',zbY L H)∧Elems 5 v'' (L.map zbX):=by
 rcases h with ⟨rfl,rfl | rfl⟩ | ⟨h,rfl⟩
 ·exact ⟨_,rfl,.nil⟩
 ·exact ⟨_,rfl,.sl _ _⟩
 ·refine ⟨.sl 5 (L.map zbX) .imm, ?_,.sl _ _⟩
  have h1:(zaE L H).objs[H.objs.length]?=some (.row 96 (zbu L)):=by simp [zaE,h]
  have h2:(zaE L H).bo=H.bo:=by simp [zaE,h]
  simp only [zaR,h1,h2]
  have hl:=zcv L
  have ho:((List.take (L.length * 5) (List.drop 0 (zbu L))).all GV.one)=true:=by
   rw [List.drop_zero,← hl,List.take_length]; exact zhh L
  rw [if_pos ⟨hbo,by decide,by omega,ho⟩,List.drop_zero,zdC]
  simp [zaE,zbY,h,zhi]
structure SAt (H:GH) (s m:Nat) (es:List (GV × GV)):Prop where
 os:H.objs[s]?=some (.cells 92 [.map m])
 om:H.objs[m]?=some (.map true kLs es)
 bo:H.bo≤m
def zul (es:List (GV × GV)) (x:El) (L:List Ent) (v:GV):List (GV × GV):=if L=[] then zfH es (elG x) else zas es (elG x) v
theorem zpf {H:GH} {s m:Nat} {es:List (GV × GV)} (hs:SAt H s m es) (x:El) (hx:ElFit x) (hr:ElRange x) (L:List Ent) (v:GV) (hv:Elems 5 v (L.map zbX)) :
 ecall T zqU [.ptr s 0,elG x,v] H=some (.tup [],{ H with objs:=H.objs.set m (.map true kLs (zul es x L v)) }):=by
 obtain ⟨h1,h2,h3⟩:=hs
 have hk:=zfE hx hr
 simp only [elG,elC] at hk
 apply optW.eq
 rw [zad zCO rfl (by simp [zoP]),zab]
 unfold zul
 have hl:=hv.len
 have hu:=zaf hv
 have hok:=hv.ok
 simp only [List.length_map] at hl
 by_cases hL:L=[]
 ·subst hL
  simp at hl
  simp [zoP,zxD,elC,hl,hu,h1,h2,h3,hk]
  rfl
 ·have hn:¬ ((L.length:Int)=0):=by
   have:L.length≠0:=by simpa using hL
   omega
  generalize hz:L.map zbX=z at *
  cases hv with
  | nil=>exact absurd (List.map_eq_nil_iff.1 hz) hL
  | sl xs t =>
   simp [zoP,zxD,elC,hl,hn,hL,h1,h2,h3,hk,hok]
   rfl
instance:Inhabited Ent:=⟨⟨0,0,0,0,[]⟩⟩
def zEh (x:El) (L:List Ent) (i:Nat):Bool:=znW x (L.getD i default)&&(decide (i=0) || decide (zdv (L.getD (i - 1) default) (L.getD i default)<0))
def zAF (x:El) (L:List Ent):Bool:=zbl x.k x.a x.b x.c x.d&&(List.range L.length).all (zEh x L)
theorem ziP (p:Nat→Bool) (i:Nat):(List.range (i+1)).all p=((List.range i).all p&&p i):=by
 rw [List.range_succ,List.all_append]; simp
end Go.Proofs.YtchjbidfmhmmhaaGreatDoor
