/- Own work: the zaO machine and what it shows, part Pu. -/
import Derived.Test.YtchjbidfmhmmhaaGreatDoorEv
set_option linter.all false
namespace Go.Proofs.YtchjbidfmhmmhaaGreatDoor
open Go.Sh
set_option maxRecDepth 100000
abbrev kLs:List Leaf:=[.int .i64,.str,.str,.str,.str]
abbrev elG (x:El):GV:=.agg (elC x)
abbrev zb8 (x:Ent):GV:=.agg (zdg x)
structure ElRange (x:El):Prop where
 k1 : -9223372036854775808≤x.k
 k2:x.k≤9223372036854775807
theorem zgm {x:El} (h:ElFit x) (hr:ElRange x):zaC true kLs (elG x)=true:=by
 obtain ⟨h1,h2⟩:=hr
 have:=h.a; have:=h.b; have:=h.c; have:=h.d
 simp [zaC,elC,zaw,maxLen,IntKind.min,IntKind.max,IntKind.signed,IntKind.bits]
 omega
structure EntFit (x:Ent):Prop where
 n1 : -9223372036854775808≤x.n
 n2:x.n≤9223372036854775807
theorem zuA (H:GH):ecall T zp2 [] H=some (.ptr (H.objs.length+1) 0,{ H with objs:=H.objs++[.map true kLs [],.cells 92 [.map H.objs.length]] }):=by
 apply optW.eq
 rw [zag zEZ rfl (by simp [zsO]),zab]
 simp [zsO,zBV,zaK,zae,GH.newObj]
def zpl (x:El) (e:Ent):Bool:=zgP e.r e.c&&znm (if x.k=4∨x.k=5 then 3 else 1) x e.k e.n e.t
def zbE (L:List Ent):List GV:=(L.map zb8).flatMap GV.cells
def zaI (L:List Ent) (H:GH):GH:=if L=[] then H else { H with objs:=H.objs++[.row 96 (zbE L)] }
def CloneV (L:List Ent) (H:GH) (v':GV):Prop:=(L=[]∧(v'=.nilsl∨v'=.sl 5 [] .exact))∨(L≠[]∧v'=.hsl H.objs.length 0 L.length 5 false)
theorem CloneV.elems {L:List Ent} {H:GH} {v':GV} (h:CloneV L H v'):(L=[]∧Elems 5 v' [])∨(L≠[]∧v'=.hsl H.objs.length 0 L.length 5 false):=by
 rcases h with ⟨h,rfl | rfl⟩ | h
 ·exact .inl ⟨h,.nil⟩
 ·exact .inl ⟨h,.sl _ _⟩
 ·exact .inr h
def zb9 (L:List Ent) (H:GH):GH:=if L=[] then H else { H with objs:=H.objs++[.dead] }
theorem zgn (L:List Ent) (v:GV) (hv:Elems 5 v (L.map zb8)) (hL:L.length≤1000000) (H:GH) :
 ∃ v',ecall T zjj [v] H=some (v',zaI L H)∧CloneV L H v':=by
 have key:optW (ecall T zjj [v] H) fun r=>CloneV L H r.1∧r.2=zaI L H:=by
  rw [zag zFk rfl (by simp [znJ]),zab]
  cases L with
  | nil =>
   generalize hz:([]:List Ent).map zb8=z at hv
   cases hv with
   | nil => 
    simp [znJ,zxk]
    exact ⟨.inl ⟨rfl,.inl rfl⟩,rfl⟩
   | sl xs t =>
    simp at hz; subst hz
    simp [znJ,zxk,zak,zbh,zbB]
    exact ⟨.inl ⟨rfl,.inr (by simp [zfF])⟩,rfl⟩
  | cons y L =>
   generalize hz:(y::L).map zb8=z at hv
   cases hv with
   | nil=>cases hz
   | sl xs t =>
    subst hz
    have h1:(((y::L).map zb8).length * 48≤zdu∧((y::L).map zb8).length≤maxLen):=by
     simp only [List.length_map]
     simp only [List.length_cons] at hL
     simp [zdu,maxLen]; omega
    have ha:zbh H 96 5 48 (.sl 5 [] .exact) (.sl 5 ((y::L).map zb8) t)=some (.hsl H.objs.length 0 ((y::L).map zb8).length 5 false,H.newObj (.row 96 (((y::L).map zb8).flatMap GV.cells))):=by
     simp only [zbh,zbB,if_true,Option.bind_some]
     rw [if_neg (by simp),if_neg (by simp),if_pos (by simp),if_pos h1]
    simp only [List.map_cons] at ha
    simp [znJ,zxk,zak,ha]
    exact ⟨.inr ⟨by simp,by simp⟩,by simp [zaI,GH.newObj,zbE]⟩
 obtain ⟨⟨v',H'⟩,h1,h2,h3⟩:=key
 simp only at h3
 subst h3
 exact ⟨v',h1,h2⟩
theorem zcL (L:List Ent):(zbE L).length=L.length * 5:=by
 induction L with
 | nil=>rfl
 | cons e L ih=>simp [zbE] at ih ⊢; simp [zdg,ih]; omega
theorem zhZ (L:List Ent):(zbE L).all GV.one=true:=by
 induction L with
 | nil=>rfl
 | cons e L ih=>simp [zbE] at ih ⊢; refine ⟨?_,ih⟩; simp [zdg,GV.one]
theorem zd1 (L:List Ent):zbc 5 L.length (zbE L)=L.map zb8:=by
 induction L with
 | nil=>rfl
 | cons e L ih =>
  have:zbE (e::L)=zdg e++zbE L:=by simp [zbE]
  rw [this]
  simp only [List.length_cons,zbc,List.map_cons]
  have e1:(zdg e++zbE L).take 5=zdg e:=by simp [zdg]
  have e2:(zdg e++zbE L).drop 5=zbE L:=by simp [zdg]
  rw [e1,e2,ih]
  rfl
theorem zh0 {α:Type} (l:List α) (x y:α):(l++[x]).set l.length y=l++[y]:=by
 induction l with
 | nil=>rfl
 | cons a l ih=>simp
theorem zqI {L:List Ent} {H:GH} {v':GV} (h:CloneV L H v') (hbo:H.bo≤H.objs.length):∃ v'',zaW (zaI L H) [v']=some (v'',zb9 L H)∧Elems 5 v'' (L.map zb8):=by
 rcases h with ⟨rfl,rfl | rfl⟩ | ⟨h,rfl⟩
 ·exact ⟨_,rfl,.nil⟩
 ·exact ⟨_,rfl,.sl _ _⟩
 ·refine ⟨.sl 5 (L.map zb8) .imm, ?_,.sl _ _⟩
  have h1:(zaI L H).objs[H.objs.length]?=some (.row 96 (zbE L)):=by simp [zaI,h]
  have h2:(zaI L H).bo=H.bo:=by simp [zaI,h]
  simp only [zaW,h1,h2]
  have hl:=zcL L
  have ho:((List.take (L.length * 5) (List.drop 0 (zbE L))).all GV.one)=true:=by
   rw [List.drop_zero,← hl,List.take_length]; exact zhZ L
  rw [if_pos ⟨hbo,by decide,by omega,ho⟩,List.drop_zero,zd1]
  simp [zaI,zb9,h,zh0]
structure SAt (H:GH) (s m:Nat) (es:List (GV × GV)):Prop where
 os:H.objs[s]?=some (.cells 92 [.map m])
 om:H.objs[m]?=some (.map true kLs es)
 bo:H.bo≤m
def zwu (es:List (GV × GV)) (x:El) (L:List Ent) (v:GV):List (GV × GV):=if L=[] then zgp es (elG x) else zav es (elG x) v
theorem zqJ {H:GH} {s m:Nat} {es:List (GV × GV)} (hs:SAt H s m es) (x:El) (hx:ElFit x) (hr:ElRange x) (L:List Ent) (v:GV) (hv:Elems 5 v (L.map zb8)) :
 ecall T zsv [.ptr s 0,elG x,v] H=some (.tup [],{ H with objs:=H.objs.set m (.map true kLs (zwu es x L v)) }):=by
 obtain ⟨h1,h2,h3⟩:=hs
 have hk:=zgm hx hr
 simp only [elG,elC] at hk
 apply optW.eq
 rw [zag zFp rfl (by simp [zqh]),zab]
 unfold zwu
 have hl:=hv.len
 have hu:=zac hv
 have hok:=hv.ok
 simp only [List.length_map] at hl
 by_cases hL:L=[]
 ·subst hL
  simp at hl
  simp [zqh,zzR,elC,hl,hu,h1,h2,h3,hk]
  rfl
 ·have hn:¬ ((L.length:Int)=0):=by
   have:L.length≠0:=by simpa using hL
   omega
  generalize hz:L.map zb8=z at *
  cases hv with
  | nil=>exact absurd (List.map_eq_nil_iff.1 hz) hL
  | sl xs t =>
   simp [zqh,zzR,elC,hl,hn,hL,h1,h2,h3,hk,hok]
   rfl
instance:Inhabited Ent:=⟨⟨0,0,0,0,[]⟩⟩
def zGY (x:El) (L:List Ent) (i:Nat):Bool:=zpl x (L.getD i default)&&(decide (i=0) || decide (zdT (L.getD (i - 1) default) (L.getD i default)<0))
def zC7 (x:El) (L:List Ent):Bool:=zbu x.k x.a x.b x.c x.d&&(List.range L.length).all (zGY x L)
theorem zjD (p:Nat→Bool) (i:Nat):(List.range (i+1)).all p=((List.range i).all p&&p i):=by
 rw [List.range_succ,List.all_append]; simp
end Go.Proofs.YtchjbidfmhmmhaaGreatDoor
