/- Own work: the zaM machine and what it shows, part Pu. -/
import Derived.Test.YtchjbidfmhmmhaaGreatDoorEv
set_option linter.all false
namespace Go.Proofs.YtchjbidfmhmmhaaGreatDoor
open Go.Sh
set_option maxRecDepth 100000
abbrev kLs:List Leaf:=[.int .i64,.str,.str,.str,.str]
abbrev elG (x:El):GV:=.agg (elC x)
abbrev zb6 (x:Ent):GV:=.agg (zde x)
structure ElRange (x:El):Prop where
 k1 : -9223372036854775808≤x.k
 k2:x.k≤9223372036854775807
theorem zgw {x:El} (h:ElFit x) (hr:ElRange x):zaI true kLs (elG x)=true:=by
 obtain ⟨h1,h2⟩:=hr
 have:=h.a; have:=h.b; have:=h.c; have:=h.d
 simp [zaI,elC,zaA,maxLen,IntKind.min,IntKind.max,IntKind.signed,IntKind.bits]
 omega
structure EntFit (x:Ent):Prop where
 n1 : -9223372036854775808≤x.n
 n2:x.n≤9223372036854775807
theorem zuL (H:GH):ecall T zsY [] H=some (.ptr (H.objs.length+1) 0,{ H with objs:=H.objs++[.map true kLs [],.cells 92 [.map H.objs.length]] }):=by
 apply optW.eq
 rw [zae zGu rfl (by simp [ztn]),zab]
 simp [ztn,zC4,zaf,zaa,GH.newObj]
def zpM (x:El) (e:Ent):Bool:=zg4 e.r e.c&&znw (if x.k=4∨x.k=5 then 3 else 1) x e.k e.n e.t
def zbz (L:List Ent):List GV:=(L.map zb6).flatMap GV.cells
def zaO (L:List Ent) (H:GH):GH:=if L=[] then H else { H with objs:=H.objs++[.row 96 (zbz L)] }
def CloneV (L:List Ent) (H:GH) (v':GV):Prop:=(L=[]∧(v'=.nilsl∨v'=.sl 5 [] .exact))∨(L≠[]∧v'=.hsl H.objs.length 0 L.length 5 false)
theorem CloneV.elems {L:List Ent} {H:GH} {v':GV} (h:CloneV L H v'):(L=[]∧Elems 5 v' [])∨(L≠[]∧v'=.hsl H.objs.length 0 L.length 5 false):=by
 rcases h with ⟨h,rfl | rfl⟩ | h
 ·exact .inl ⟨h,.nil⟩
 ·exact .inl ⟨h,.sl _ _⟩
 ·exact .inr h
def zb7 (L:List Ent) (H:GH):GH:=if L=[] then H else { H with objs:=H.objs++[.dead] }
theorem zgx (L:List Ent) (v:GV) (hv:Elems 5 v (L.map zb6)) (hL:L.length≤1000000) (H:GH) :
 ∃ v',ecall T zjr [v] H=some (v',zaO L H)∧CloneV L H v':=by
 have key:optW (ecall T zjr [v] H) fun r=>CloneV L H r.1∧r.2=zaO L H:=by
  rw [zae zGJ rfl (by simp [znY]),zab]
  cases L with
  | nil =>
   generalize hz:([]:List Ent).map zb6=z at hv
   cases hv with
   | nil => 
    simp [znY,zyc]
    exact ⟨.inl ⟨rfl,.inl rfl⟩,rfl⟩
   | sl xs t =>
    simp at hz; subst hz
    simp [znY,zyc,zan,zbh,zbS]
    exact ⟨.inl ⟨rfl,.inr (by simp [zfL])⟩,rfl⟩
  | cons y L =>
   generalize hz:(y::L).map zb6=z at hv
   cases hv with
   | nil=>cases hz
   | sl xs t =>
    subst hz
    have h1:(((y::L).map zb6).length * 48≤zeu∧((y::L).map zb6).length≤maxLen):=by
     simp only [List.length_map]
     simp only [List.length_cons] at hL
     simp [zeu,maxLen]; omega
    have ha:zbh H 96 5 48 (.sl 5 [] .exact) (.sl 5 ((y::L).map zb6) t)=some (.hsl H.objs.length 0 ((y::L).map zb6).length 5 false,H.newObj (.row 96 (((y::L).map zb6).flatMap GV.cells))):=by
     simp only [zbh,zbS,if_true,Option.bind_some]
     rw [if_neg (by simp),if_neg (by simp),if_pos (by simp),if_pos h1]
    simp only [List.map_cons] at ha
    simp [znY,zyc,zan,ha]
    exact ⟨.inr ⟨by simp,by simp⟩,by simp [zaO,GH.newObj,zbz]⟩
 obtain ⟨⟨v',H'⟩,h1,h2,h3⟩:=key
 simp only at h3
 subst h3
 exact ⟨v',h1,h2⟩
theorem zcK (L:List Ent):(zbz L).length=L.length * 5:=by
 induction L with
 | nil=>rfl
 | cons e L ih=>simp [zbz] at ih ⊢; simp [zde,ih]; omega
theorem zh5 (L:List Ent):(zbz L).all GV.one=true:=by
 induction L with
 | nil=>rfl
 | cons e L ih=>simp [zbz] at ih ⊢; refine ⟨?_,ih⟩; simp [zde,GV.one]
theorem zd3 (L:List Ent):za9 5 L.length (zbz L)=L.map zb6:=by
 induction L with
 | nil=>rfl
 | cons e L ih =>
  have:zbz (e::L)=zde e++zbz L:=by simp [zbz]
  rw [this]
  simp only [List.length_cons,za9,List.map_cons]
  have e1:(zde e++zbz L).take 5=zde e:=by simp [zde]
  have e2:(zde e++zbz L).drop 5=zbz L:=by simp [zde]
  rw [e1,e2,ih]
  rfl
theorem zh6 {α:Type} (l:List α) (x y:α):(l++[x]).set l.length y=l++[y]:=by
 induction l with
 | nil=>rfl
 | cons a l ih=>simp
theorem zrc {L:List Ent} {H:GH} {v':GV} (h:CloneV L H v') (hbo:H.bo≤H.objs.length):∃ v'',za1 (zaO L H) [v']=some (v'',zb7 L H)∧Elems 5 v'' (L.map zb6):=by
 rcases h with ⟨rfl,rfl | rfl⟩ | ⟨h,rfl⟩
 ·exact ⟨_,rfl,.nil⟩
 ·exact ⟨_,rfl,.sl _ _⟩
 ·refine ⟨.sl 5 (L.map zb6) .imm, ?_,.sl _ _⟩
  have h1:(zaO L H).objs[H.objs.length]?=some (.row 96 (zbz L)):=by simp [zaO,h]
  have h2:(zaO L H).bo=H.bo:=by simp [zaO,h]
  simp only [za1,h1,h2]
  have hl:=zcK L
  have ho:((List.take (L.length * 5) (List.drop 0 (zbz L))).all GV.one)=true:=by
   rw [List.drop_zero,← hl,List.take_length]; exact zh5 L
  rw [if_pos ⟨hbo,by decide,by omega,ho⟩,List.drop_zero,zd3]
  simp [zaO,zb7,h,zh6]
structure SAt (H:GH) (s m:Nat) (es:List (GV × GV)):Prop where
 os:H.objs[s]?=some (.cells 92 [.map m])
 om:H.objs[m]?=some (.map true kLs es)
 bo:H.bo≤m
def zw4 (es:List (GV × GV)) (x:El) (L:List Ent) (v:GV):List (GV × GV):=if L=[] then zgB es (elG x) else zaw es (elG x) v
theorem zrd {H:GH} {s m:Nat} {es:List (GV × GV)} (hs:SAt H s m es) (x:El) (hx:ElFit x) (hr:ElRange x) (L:List Ent) (v:GV) (hv:Elems 5 v (L.map zb6)) :
 ecall T zlW [.ptr s 0,elG x,v] H=some (.tup [],{ H with objs:=H.objs.set m (.map true kLs (zw4 es x L v)) }):=by
 obtain ⟨h1,h2,h3⟩:=hs
 have hk:=zgw hx hr
 simp only [elG,elC] at hk
 apply optW.eq
 rw [zae zD4 rfl (by simp [zj3]),zab]
 unfold zw4
 have hl:=hv.len
 have hu:=zad hv
 have hok:=hv.ok
 simp only [List.length_map] at hl
 by_cases hL:L=[]
 ·subst hL
  simp at hl
  simp [zj3,ztF,elC,hl,hu,h1,h2,h3,hk]
  rfl
 ·have hn:¬ ((L.length:Int)=0):=by
   have:L.length≠0:=by simpa using hL
   omega
  generalize hz:L.map zb6=z at *
  cases hv with
  | nil=>exact absurd (List.map_eq_nil_iff.1 hz) hL
  | sl xs t =>
   simp [zj3,ztF,elC,hl,hn,hL,h1,h2,h3,hk,hok]
   rfl
instance:Inhabited Ent:=⟨⟨0,0,0,0,[]⟩⟩
def zIu (x:El) (L:List Ent) (i:Nat):Bool:=zpM x (L.getD i default)&&(decide (i=0) || decide (zdV (L.getD (i - 1) default) (L.getD i default)<0))
def zEw (x:El) (L:List Ent):Bool:=zby x.k x.a x.b x.c x.d&&(List.range L.length).all (zIu x L)
theorem zjH (p:Nat→Bool) (i:Nat):(List.range (i+1)).all p=((List.range i).all p&&p i):=by
 rw [List.range_succ,List.all_append]; simp
end Go.Proofs.YtchjbidfmhmmhaaGreatDoor
