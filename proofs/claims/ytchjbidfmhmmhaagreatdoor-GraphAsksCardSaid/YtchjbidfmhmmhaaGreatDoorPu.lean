/- Own work: the zaN machine and what it shows, part Pu. -/
import Derived.Test.YtchjbidfmhmmhaaGreatDoorEv
set_option linter.all false
namespace Go.Proofs.YtchjbidfmhmmhaaGreatDoor
open Go.Sh
set_option maxRecDepth 100000
abbrev kLs:List Leaf:=[.int .i64,.str,.str,.str,.str]
abbrev elG (x:El):GV:=.agg (elC x)
abbrev zbV (x:Ent):GV:=.agg (zcV x)
structure ElRange (x:El):Prop where
  k1 : -9223372036854775808≤x.k
  k2:x.k≤9223372036854775807
theorem zfJ {x:El} (h:ElFit x) (hr:ElRange x):zay true kLs (elG x)=true:=by
  obtain ⟨h1,h2⟩:=hr
  have:=h.a; have:=h.b; have:=h.c; have:=h.d
  simp [zay,elC,zas,maxLen,IntKind.min,IntKind.max,IntKind.signed,IntKind.bits]
  omega
structure EntFit (x:Ent):Prop where
  n1 : -9223372036854775808≤x.n
  n2:x.n≤9223372036854775807
theorem zsm (H:GH):ecall T zoy [] H=some (.ptr (H.objs.length+1) 0,{ H with objs:=H.objs++[.map true kLs [],.cells 92 [.map H.objs.length]] }):=by
  apply optW.eq
  rw [zad zCI rfl (by simp [zq8]),zab]
  simp [zq8,zzz,zaS,zaf,GH.newObj]
def znS (x:El) (e:Ent):Bool:=zgf e.r e.c&&zl8 (if x.k=4∨x.k=5 then 3 else 1) x e.k e.n e.t
def zbt (L:List Ent):List GV:=(L.map zbV).flatMap GV.cells
def zaD (L:List Ent) (H:GH):GH:=if L=[] then H else { H with objs:=H.objs++[.row 96 (zbt L)] }
def CloneV (L:List Ent) (H:GH) (v':GV):Prop:=(L=[]∧(v'=.nilsl∨v'=.sl 5 [] .exact))∨(L≠[]∧v'=.hsl H.objs.length 0 L.length 5 false)
theorem CloneV.elems {L:List Ent} {H:GH} {v':GV} (h:CloneV L H v'):(L=[]∧Elems 5 v' [])∨(L≠[]∧v'=.hsl H.objs.length 0 L.length 5 false):=by
  rcases h with ⟨h,rfl | rfl⟩ | h
  · exact .inl ⟨h,.nil⟩
  · exact .inl ⟨h,.sl _ _⟩
  · exact .inr h
def zbW (L:List Ent) (H:GH):GH:=if L=[] then H else { H with objs:=H.objs++[.dead] }
theorem zfK (L:List Ent) (v:GV) (hv:Elems 5 v (L.map zbV)) (hL:L.length≤1000000) (H:GH) :
    ∃ v',ecall T ziz [v] H=some (v',zaD L H)∧CloneV L H v':=by
  have key:optW (ecall T ziz [v] H) fun r=>CloneV L H r.1∧r.2=zaD L H:=by
    rw [zad zC2 rfl (by simp [zmk]),zab]
    cases L with
    | nil =>
      generalize hz:([]:List Ent).map zbV=z at hv
      cases hv with
      | nil => 
        simp [zmk,zvb]
        exact ⟨.inl ⟨rfl,.inl rfl⟩,rfl⟩
      | sl xs t =>
        simp at hz; subst hz
        simp [zmk,zvb,zam,zba,zbG]
        exact ⟨.inl ⟨rfl,.inr (by simp [ze0])⟩,rfl⟩
    | cons y L =>
      generalize hz:(y::L).map zbV=z at hv
      cases hv with
      | nil=>cases hz
      | sl xs t =>
        subst hz
        have h1:(((y::L).map zbV).length * 48≤zdY∧((y::L).map zbV).length≤maxLen):=by
          simp only [List.length_map]
          simp only [List.length_cons] at hL
          simp [zdY,maxLen]; omega
        have ha:zba H 96 5 48 (.sl 5 [] .exact) (.sl 5 ((y::L).map zbV) t)=some (.hsl H.objs.length 0 ((y::L).map zbV).length 5 false,H.newObj (.row 96 (((y::L).map zbV).flatMap GV.cells))):=by
          simp only [zba,zbG,if_true,Option.bind_some]
          rw [if_neg (by simp),if_neg (by simp),if_pos (by simp),if_pos h1]
        simp only [List.map_cons] at ha
        simp [zmk,zvb,zam,ha]
        exact ⟨.inr ⟨by simp,by simp⟩,by simp [zaD,GH.newObj,zbt]⟩
  obtain ⟨⟨v',H'⟩,h1,h2,h3⟩:=key
  simp only at h3
  subst h3
  exact ⟨v',h1,h2⟩
theorem zct (L:List Ent):(zbt L).length=L.length * 5:=by
  induction L with
  | nil=>rfl
  | cons e L ih=>simp [zbt] at ih ⊢; simp [zcV,ih]; omega
theorem zhk (L:List Ent):(zbt L).all GV.one=true:=by
  induction L with
  | nil=>rfl
  | cons e L ih=>simp [zbt] at ih ⊢; refine ⟨?_,ih⟩; simp [zcV,GV.one]
theorem zdx (L:List Ent):za2 5 L.length (zbt L)=L.map zbV:=by
  induction L with
  | nil=>rfl
  | cons e L ih =>
    have:zbt (e::L)=zcV e++zbt L:=by simp [zbt]
    rw [this]
    simp only [List.length_cons,za2,List.map_cons]
    have e1:(zcV e++zbt L).take 5=zcV e:=by simp [zcV]
    have e2:(zcV e++zbt L).drop 5=zbt L:=by simp [zcV]
    rw [e1,e2,ih]
    rfl
theorem zhl {α:Type} (l:List α) (x y:α):(l++[x]).set l.length y=l++[y]:=by
  induction l with
  | nil=>rfl
  | cons a l ih=>simp
theorem zpa {L:List Ent} {H:GH} {v':GV} (h:CloneV L H v') (hbo:H.bo≤H.objs.length):∃ v'',zaQ (zaD L H) [v']=some (v'',zbW L H)∧Elems 5 v'' (L.map zbV):=by
  rcases h with ⟨rfl,rfl | rfl⟩ | ⟨h,rfl⟩
  · exact ⟨_,rfl,.nil⟩
  · exact ⟨_,rfl,.sl _ _⟩
  · refine ⟨.sl 5 (L.map zbV) .imm, ?_,.sl _ _⟩
    have h1:(zaD L H).objs[H.objs.length]?=some (.row 96 (zbt L)):=by simp [zaD,h]
    have h2:(zaD L H).bo=H.bo:=by simp [zaD,h]
    simp only [zaQ,h1,h2]
    have hl:=zct L
    have ho:((List.take (L.length * 5) (List.drop 0 (zbt L))).all GV.one)=true:=by
      rw [List.drop_zero,← hl,List.take_length]; exact zhk L
    rw [if_pos ⟨hbo,by decide,by omega,ho⟩,List.drop_zero,zdx]
    simp [zaD,zbW,h,zhl]
structure SAt (H:GH) (s m:Nat) (es:List (GV × GV)):Prop where
  os:H.objs[s]?=some (.cells 92 [.map m])
  om:H.objs[m]?=some (.map true kLs es)
  bo:H.bo≤m
def zug (es:List (GV × GV)) (x:El) (L:List Ent) (v:GV):List (GV × GV):=if L=[] then zfM es (elG x) else zar es (elG x) v
theorem zpb {H:GH} {s m:Nat} {es:List (GV × GV)} (hs:SAt H s m es) (x:El) (hx:ElFit x) (hr:ElRange x) (L:List Ent) (v:GV) (hv:Elems 5 v (L.map zbV)) :
    ecall T zqT [.ptr s 0,elG x,v] H=some (.tup [],{ H with objs:=H.objs.set m (.map true kLs (zug es x L v)) }):=by
  obtain ⟨h1,h2,h3⟩:=hs
  have hk:=zfJ hx hr
  simp only [elG,elC] at hk
  apply optW.eq
  rw [zad zC8 rfl (by simp [zoN]),zab]
  unfold zug
  have hl:=hv.len
  have hu:=zah hv
  have hok:=hv.ok
  simp only [List.length_map] at hl
  by_cases hL:L=[]
  · subst hL
    simp at hl
    simp [zoN,zxs,elC,hl,hu,h1,h2,h3,hk]
    rfl
  · have hn:¬ ((L.length:Int)=0):=by
      have:L.length≠0:=by simpa using hL
      omega
    generalize hz:L.map zbV=z at *
    cases hv with
    | nil=>exact absurd (List.map_eq_nil_iff.1 hz) hL
    | sl xs t =>
      simp [zoN,zxs,elC,hl,hn,hL,h1,h2,h3,hk,hok]
      rfl
instance:Inhabited Ent:=⟨⟨0,0,0,0,[]⟩⟩
def zEv (x:El) (L:List Ent) (i:Nat):Bool:=znS x (L.getD i default)&&(decide (i=0) || decide (zdr (L.getD (i - 1) default) (L.getD i default)<0))
def zAJ (x:El) (L:List Ent):Bool:=zbr x.k x.a x.b x.c x.d&&(List.range L.length).all (zEv x L)
theorem ziO (p:Nat→Bool) (i:Nat):(List.range (i+1)).all p=((List.range i).all p&&p i):=by
  rw [List.range_succ,List.all_append]; simp
end Go.Proofs.YtchjbidfmhmmhaaGreatDoor
namespace Go.Proofs.YtchjbidfmhmmhaaGreatDoor
open Go.Sh
set_option maxRecDepth 100000
end Go.Proofs.YtchjbidfmhmmhaaGreatDoor
