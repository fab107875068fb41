/- Own work: the zaL machine and what it shows, part Pu. -/
import Derived.Test.YtchjbidfmhmmhaaGreatDoorEv
set_option linter.all false
namespace Go.Proofs.YtchjbidfmhmmhaaGreatDoor
open Go.Sh
set_option maxRecDepth 100000
abbrev kLs:List Leaf := [.int .i64,.str,.str,.str,.str]
abbrev elG (x:El):GV := .agg (elC x)
abbrev zbQ (x:Ent):GV := .agg (zcP x)
structure ElRange (x:El):Prop where
  k1 : -9223372036854775808 ≤ x.k
  k2:x.k ≤ 9223372036854775807
theorem zfq {x:El} (h:ElFit x) (hr:ElRange x):zaz true kLs (elG x) = true := by
  obtain ⟨h1,h2⟩ := hr
  have := h.a; have := h.b; have := h.c; have := h.d
  simp [zaz,elC,zar,maxLen,IntKind.min,IntKind.max,IntKind.signed,IntKind.bits]
  omega
structure EntFit (x:Ent):Prop where
  n1 : -9223372036854775808 ≤ x.n
  n2:x.n ≤ 9223372036854775807
theorem zrx (H:GH):ecall T znS [] H = some (.ptr (H.objs.length + 1) 0,{ H with objs := H.objs ++ [.map true kLs [],.cells 92 [.map H.objs.length]] }) := by
  apply optW.eq
  rw [zad zBA rfl (by simp [zqm]),zab]
  simp [zqm,zyA,zaU,zae,GH.newObj]
def znf (x:El) (e:Ent):Bool := zfW e.r e.c && zlE (if x.k = 4 ∨ x.k = 5 then 3 else 1) x e.k e.n e.t
def zbr (L:List Ent):List GV := (L.map zbQ).flatMap GV.cells
def zaD (L:List Ent) (H:GH):GH := if L = [] then H else { H with objs := H.objs ++ [.row 96 (zbr L)] }
def CloneV (L:List Ent) (H:GH) (v':GV):Prop := (L = [] ∧ (v' = .nilsl ∨ v' = .sl 5 [] .exact)) ∨ (L ≠ [] ∧ v' = .hsl H.objs.length 0 L.length 5 false)
theorem CloneV.elems {L:List Ent} {H:GH} {v':GV} (h:CloneV L H v'):(L = [] ∧ Elems 5 v' []) ∨ (L ≠ [] ∧ v' = .hsl H.objs.length 0 L.length 5 false) := by
  rcases h with ⟨h,rfl | rfl⟩ | h
  · exact .inl ⟨h,.nil⟩
  · exact .inl ⟨h,.sl _ _⟩
  · exact .inr h
def zbR (L:List Ent) (H:GH):GH := if L = [] then H else { H with objs := H.objs ++ [.dead] }
theorem zfr (L:List Ent) (v:GV) (hv:Elems 5 v (L.map zbQ)) (hL:L.length ≤ 1000000) (H:GH) :
    ∃ v',ecall T zia [v] H = some (v',zaD L H) ∧ CloneV L H v' := by
  have key:optW (ecall T zia [v] H) fun r => CloneV L H r.1 ∧ r.2 = zaD L H := by
    rw [zad zBQ rfl (by simp [zlP]),zab]
    cases L with
    | nil =>
      generalize hz:([]:List Ent).map zbQ = z at hv
      cases hv with
      | nil => 
        simp [zlP,zul]
        exact ⟨.inl ⟨rfl,.inl rfl⟩,rfl⟩
      | sl xs t =>
        simp at hz; subst hz
        simp [zlP,zul,zan,za7,zbT]
        exact ⟨.inl ⟨rfl,.inr (by simp [zeP])⟩,rfl⟩
    | cons y L =>
      generalize hz:(y :: L).map zbQ = z at hv
      cases hv with
      | nil => cases hz
      | sl xs t =>
        subst hz
        have h1:(((y :: L).map zbQ).length * 48 ≤ zeN ∧ ((y :: L).map zbQ).length ≤ maxLen) := by
          simp only [List.length_map]
          simp only [List.length_cons] at hL
          simp [zeN,maxLen]; omega
        have ha:za7 H 96 5 48 (.sl 5 [] .exact) (.sl 5 ((y :: L).map zbQ) t) = some (.hsl H.objs.length 0 ((y :: L).map zbQ).length 5 false,H.newObj (.row 96 (((y :: L).map zbQ).flatMap GV.cells))) := by
          simp only [za7,zbT,if_true,Option.bind_some]
          rw [if_neg (by simp),if_neg (by simp),if_pos (by simp),if_pos h1]
        simp only [List.map_cons] at ha
        simp [zlP,zul,zan,ha]
        exact ⟨.inr ⟨by simp,by simp⟩,by simp [zaD,GH.newObj,zbr]⟩
  obtain ⟨⟨v',H'⟩,h1,h2,h3⟩ := key
  simp only at h3
  subst h3
  exact ⟨v',h1,h2⟩
theorem zcm (L:List Ent):(zbr L).length = L.length * 5 := by
  induction L with
  | nil => rfl
  | cons e L ih => simp [zbr] at ih ⊢; simp [zcP,ih]; omega
theorem zg0 (L:List Ent):(zbr L).all GV.one = true := by
  induction L with
  | nil => rfl
  | cons e L ih => simp [zbr] at ih ⊢; refine ⟨?_,ih⟩; simp [zcP,GV.one]
theorem zdu (L:List Ent):za0 5 L.length (zbr L) = L.map zbQ := by
  induction L with
  | nil => rfl
  | cons e L ih =>
    have:zbr (e :: L) = zcP e ++ zbr L := by simp [zbr]
    rw [this]
    simp only [List.length_cons,za0,List.map_cons]
    have e1:(zcP e ++ zbr L).take 5 = zcP e := by simp [zcP]
    have e2:(zcP e ++ zbr L).drop 5 = zbr L := by simp [zcP]
    rw [e1,e2,ih]
    rfl
theorem zg1 {α:Type} (l:List α) (x y:α):(l ++ [x]).set l.length y = l ++ [y] := by
  induction l with
  | nil => rfl
  | cons a l ih => simp
theorem zoq {L:List Ent} {H:GH} {v':GV} (h:CloneV L H v') (hbo:H.bo ≤ H.objs.length):∃ v'',zaQ (zaD L H) [v'] = some (v'',zbR L H) ∧ Elems 5 v'' (L.map zbQ) := by
  rcases h with ⟨rfl,rfl | rfl⟩ | ⟨h,rfl⟩
  · exact ⟨_,rfl,.nil⟩
  · exact ⟨_,rfl,.sl _ _⟩
  · refine ⟨.sl 5 (L.map zbQ) .imm, ?_,.sl _ _⟩
    have h1:(zaD L H).objs[H.objs.length]? = some (.row 96 (zbr L)) := by simp [zaD,h]
    have h2:(zaD L H).bo = H.bo := by simp [zaD,h]
    simp only [zaQ,h1,h2]
    have hl := zcm L
    have ho:((List.take (L.length * 5) (List.drop 0 (zbr L))).all GV.one) = true := by
      rw [List.drop_zero,← hl,List.take_length]; exact zg0 L
    rw [if_pos ⟨hbo,by decide,by omega,ho⟩,List.drop_zero,zdu]
    simp [zaD,zbR,h,zg1]
structure SAt (H:GH) (s m:Nat) (es:List (GV × GV)):Prop where
  os:H.objs[s]? = some (.cells 92 [.map m])
  om:H.objs[m]? = some (.map true kLs es)
  bo:H.bo ≤ m
def ztq (es:List (GV × GV)) (x:El) (L:List Ent) (v:GV):List (GV × GV) := if L = [] then zft es (elG x) else zap es (elG x) v
theorem zor {H:GH} {s m:Nat} {es:List (GV × GV)} (hs:SAt H s m es) (x:El) (hx:ElFit x) (hr:ElRange x) (L:List Ent) (v:GV) (hv:Elems 5 v (L.map zbQ)) :
    ecall T zp6 [.ptr s 0,elG x,v] H = some (.tup [],{ H with objs := H.objs.set m (.map true kLs (ztq es x L v)) }) := by
  obtain ⟨h1,h2,h3⟩ := hs
  have hk := zfq hx hr
  simp only [elG,elC] at hk
  apply optW.eq
  rw [zad zBW rfl (by simp [zn5]),zab]
  unfold ztq
  have hl := hv.len
  have hu := zam hv
  have hok := hv.ok
  simp only [List.length_map] at hl
  by_cases hL:L = []
  · subst hL
    simp at hl
    simp [zn5,zww,elC,hl,hu,h1,h2,h3,hk]
    rfl
  · have hn:¬ ((L.length:Int) = 0) := by
      have:L.length ≠ 0 := by simpa using hL
      omega
    generalize hz:L.map zbQ = z at *
    cases hv with
    | nil => exact absurd (List.map_eq_nil_iff.1 hz) hL
    | sl xs t =>
      simp [zn5,zww,elC,hl,hn,hL,h1,h2,h3,hk,hok]
      rfl
instance:Inhabited Ent := ⟨⟨0,0,0,0,[]⟩⟩
def zDi (x:El) (L:List Ent) (i:Nat):Bool := znf x (L.getD i default) && (decide (i = 0) || decide (zdm (L.getD (i - 1) default) (L.getD i default) < 0))
def zzD (x:El) (L:List Ent):Bool := zbq x.k x.a x.b x.c x.d && (List.range L.length).all (zDi x L)
theorem ziq (p:Nat → Bool) (i:Nat):(List.range (i + 1)).all p = ((List.range i).all p && p i) := by
  rw [List.range_succ,List.all_append]; simp
end Go.Proofs.YtchjbidfmhmmhaaGreatDoor
namespace Go.Proofs.YtchjbidfmhmmhaaGreatDoor
open Go.Sh
set_option maxRecDepth 100000
end Go.Proofs.YtchjbidfmhmmhaaGreatDoor
