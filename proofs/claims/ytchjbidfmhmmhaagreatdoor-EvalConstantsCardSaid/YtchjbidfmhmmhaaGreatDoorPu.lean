/- Own work: the zaH machine and what it shows, part Pu. -/
import Derived.Test.YtchjbidfmhmmhaaGreatDoorEv
set_option linter.all false
namespace Go.Proofs.YtchjbidfmhmmhaaGreatDoor
open Go.Sh
set_option maxRecDepth 100000
abbrev kLs:List Leaf := [.int .i64,.str,.str,.str,.str]
abbrev elG (x:El):GV := .agg (elC x)
abbrev zbI (x:Ent):GV := .agg (zcC x)
structure ElRange (x:El):Prop where
  k1 : -9223372036854775808 ≤ x.k
  k2:x.k ≤ 9223372036854775807
theorem zeS {x:El} (h:ElFit x) (hr:ElRange x):zaw true kLs (elG x) = true := by
  obtain ⟨h1,h2⟩ := hr
  have := h.a; have := h.b; have := h.c; have := h.d
  simp [zaw,elC,zap,maxLen,IntKind.min,IntKind.max,IntKind.signed,IntKind.bits]
  omega
structure EntFit (x:Ent):Prop where
  n1 : -9223372036854775808 ≤ x.n
  n2:x.n ≤ 9223372036854775807
theorem zqi (H:GH):ecall T zpc [] H = some (.ptr (H.objs.length + 1) 0,{ H with objs := H.objs ++ [.map true kLs [],.cells 92 [.map H.objs.length]] }) := by
  apply optW.eq
  rw [zae zAn rfl (by simp [zpq]),zab]
  simp [zpq,zxu,zar,zac,GH.newObj]
def zmq (x:El) (e:Ent):Bool := zir e.r e.c && zoW (if x.k = 4 ∨ x.k = 5 then 3 else 1) x e.k e.n e.t
def zbj (L:List Ent):List GV := (L.map zbI).flatMap GV.cells
def zay (L:List Ent) (H:GH):GH := if L = [] then H else { H with objs := H.objs ++ [.row 96 (zbj L)] }
def CloneV (L:List Ent) (H:GH) (v':GV):Prop := (L = [] ∧ (v' = .nilsl ∨ v' = .sl 5 [] .exact)) ∨ (L ≠ [] ∧ v' = .hsl H.objs.length 0 L.length 5 false)
theorem CloneV.elems {L:List Ent} {H:GH} {v':GV} (h:CloneV L H v'):(L = [] ∧ Elems 5 v' []) ∨ (L ≠ [] ∧ v' = .hsl H.objs.length 0 L.length 5 false) := by
  rcases h with ⟨h,rfl | rfl⟩ | h
  · exact .inl ⟨h,.nil⟩
  · exact .inl ⟨h,.sl _ _⟩
  · exact .inr h
def zbJ (L:List Ent) (H:GH):GH := if L = [] then H else { H with objs := H.objs ++ [.dead] }
theorem zeT (L:List Ent) (v:GV) (hv:Elems 5 v (L.map zbI)) (hL:L.length ≤ 1000000) (H:GH) :
    ∃ v',ecall T zhr [v] H = some (v',zay L H) ∧ CloneV L H v' := by
  have key:optW (ecall T zhr [v] H) fun r => CloneV L H r.1 ∧ r.2 = zay L H := by
    rw [zae zAu rfl (by simp [zk8]),zab]
    cases L with
    | nil =>
      generalize hz:([]:List Ent).map zbI = z at hv
      cases hv with
      | nil => 
        simp [zk8,ztc]
        exact ⟨.inl ⟨rfl,.inl rfl⟩,rfl⟩
      | sl xs t =>
        simp at hz; subst hz
        simp [zk8,ztc,zao,za1,zb8]
        exact ⟨.inl ⟨rfl,.inr (by simp [zen])⟩,rfl⟩
    | cons y L =>
      generalize hz:(y :: L).map zbI = z at hv
      cases hv with
      | nil => cases hz
      | sl xs t =>
        subst hz
        have h1:(((y :: L).map zbI).length * 48 ≤ zeU ∧ ((y :: L).map zbI).length ≤ maxLen) := by
          simp only [List.length_map]
          simp only [List.length_cons] at hL
          simp [zeU,maxLen]; omega
        have ha:za1 H 96 5 48 (.sl 5 [] .exact) (.sl 5 ((y :: L).map zbI) t) = some (.hsl H.objs.length 0 ((y :: L).map zbI).length 5 false,H.newObj (.row 96 (((y :: L).map zbI).flatMap GV.cells))) := by
          simp only [za1,zb8,if_true,Option.bind_some]
          rw [if_neg (by simp),if_neg (by simp),if_pos (by simp),if_pos h1]
        simp only [List.map_cons] at ha
        simp [zk8,ztc,zao,ha]
        exact ⟨.inr ⟨by simp,by simp⟩,by simp [zay,GH.newObj,zbj]⟩
  obtain ⟨⟨v',H'⟩,h1,h2,h3⟩ := key
  simp only at h3
  subst h3
  exact ⟨v',h1,h2⟩
theorem zce (L:List Ent):(zbj L).length = L.length * 5 := by
  induction L with
  | nil => rfl
  | cons e L ih => simp [zbj] at ih ⊢; simp [zcC,ih]; omega
theorem zgl (L:List Ent):(zbj L).all GV.one = true := by
  induction L with
  | nil => rfl
  | cons e L ih => simp [zbj] at ih ⊢; refine ⟨?_,ih⟩; simp [zcC,GV.one]
theorem zdb (L:List Ent):zaX 5 L.length (zbj L) = L.map zbI := by
  induction L with
  | nil => rfl
  | cons e L ih =>
    have:zbj (e :: L) = zcC e ++ zbj L := by simp [zbj]
    rw [this]
    simp only [List.length_cons,zaX,List.map_cons]
    have e1:(zcC e ++ zbj L).take 5 = zcC e := by simp [zcC]
    have e2:(zcC e ++ zbj L).drop 5 = zbj L := by simp [zcC]
    rw [e1,e2,ih]
    rfl
theorem zgm {α:Type} (l:List α) (x y:α):(l ++ [x]).set l.length y = l ++ [y] := by
  induction l with
  | nil => rfl
  | cons a l ih => simp
theorem znx {L:List Ent} {H:GH} {v':GV} (h:CloneV L H v') (hbo:H.bo ≤ H.objs.length):∃ v'',zaQ (zay L H) [v'] = some (v'',zbJ L H) ∧ Elems 5 v'' (L.map zbI) := by
  rcases h with ⟨rfl,rfl | rfl⟩ | ⟨h,rfl⟩
  · exact ⟨_,rfl,.nil⟩
  · exact ⟨_,rfl,.sl _ _⟩
  · refine ⟨.sl 5 (L.map zbI) .imm, ?_,.sl _ _⟩
    have h1:(zay L H).objs[H.objs.length]? = some (.row 96 (zbj L)) := by simp [zay,h]
    have h2:(zay L H).bo = H.bo := by simp [zay,h]
    simp only [zaQ,h1,h2]
    have hl := zce L
    have ho:((List.take (L.length * 5) (List.drop 0 (zbj L))).all GV.one) = true := by
      rw [List.drop_zero,← hl,List.take_length]; exact zgl L
    rw [if_pos ⟨hbo,by decide,by omega,ho⟩,List.drop_zero,zdb]
    simp [zay,zbJ,h,zgm]
structure SAt (H:GH) (s m:Nat) (es:List (GV × GV)):Prop where
  os:H.objs[s]? = some (.cells 92 [.map m])
  om:H.objs[m]? = some (.map true kLs es)
  bo:H.bo ≤ m
def zsg (es:List (GV × GV)) (x:El) (L:List Ent) (v:GV):List (GV × GV) := if L = [] then zeV es (elG x) else zan es (elG x) v
theorem zny {H:GH} {s m:Nat} {es:List (GV × GV)} (hs:SAt H s m es) (x:El) (hx:ElFit x) (hr:ElRange x) (L:List Ent) (v:GV) (hv:Elems 5 v (L.map zbI)) :
    ecall T zpf [.ptr s 0,elG x,v] H = some (.tup [],{ H with objs := H.objs.set m (.map true kLs (zsg es x L v)) }) := by
  obtain ⟨h1,h2,h3⟩ := hs
  have hk := zeS hx hr
  simp only [elG,elC] at hk
  apply optW.eq
  rw [zae zAA rfl (by simp [zni]),zab]
  unfold zsg
  have hl := hv.len
  have hu := zam hv
  have hok := hv.ok
  simp only [List.length_map] at hl
  by_cases hL:L = []
  · subst hL
    simp at hl
    simp [zni,zvq,elC,hl,hu,h1,h2,h3,hk]
    rfl
  · have hn:¬ ((L.length:Int) = 0) := by
      have:L.length ≠ 0 := by simpa using hL
      omega
    generalize hz:L.map zbI = z at *
    cases hv with
    | nil => exact absurd (List.map_eq_nil_iff.1 hz) hL
    | sl xs t =>
      simp [zni,zvq,elC,hl,hn,hL,h1,h2,h3,hk,hok]
      rfl
instance:Inhabited Ent := ⟨⟨0,0,0,0,[]⟩⟩
def zCg (x:El) (L:List Ent) (i:Nat):Bool := zmq x (L.getD i default) && (decide (i = 0) || decide (zdq (L.getD (i - 1) default) (L.getD i default) < 0))
def zyr (x:El) (L:List Ent):Bool := zcM x.k x.a x.b x.c x.d && (List.range L.length).all (zCg x L)
end Go.Proofs.YtchjbidfmhmmhaaGreatDoor
namespace Go.Proofs.YtchjbidfmhmmhaaGreatDoor
open Go.Sh
set_option maxRecDepth 100000
end Go.Proofs.YtchjbidfmhmmhaaGreatDoor
