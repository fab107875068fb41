/- Own work: the zaL machine and what it shows, part Al. -/
import Derived.Test.YtchjbidfmhmmhaaGreatDoorDo
import Derived.Test.YtchjbidfmhmmhaaGreatDoorEn
import Derived.Test.YtchjbidfmhmmhaaGreatDoorShH
set_option linter.all false
namespace Go.Proofs.YtchjbidfmhmmhaaGreatDoor
open Go.Sh
set_option maxRecDepth 100000
abbrev Stp := El × List Ent
def toI (p:Stp):El × GV := (p.1,.sl 5 (p.2.map zbQ) .imm)
def itG (p:Stp):GV := .agg (enI (toI p))
def cfS (p q:Stp):Int := zdj p.1 q.1
def zb4 {α β:Type} (f:α → Option β):List α → Option (List β)
  | [] => some []
  | x :: l => match f x,zb4 f l with
    | some a,some b => some (a :: b)
    | _,_ => none
def zj4:GV → Option Ent
  | .agg [.int .i64 r,.int .i64 c,.int .i64 k,.int .i64 n,.str t] => some ⟨r,c,k,n,t.data.toList⟩
  | _ => none
def zty:GV → Option El
  | .agg [.int .i64 k,.str a,.str b,.str c,.str d] => some ⟨k,a.data.toList,b.data.toList,c.data.toList,d.data.toList⟩
  | _ => none
def elB (x:El):Bool := decide (x.a.length ≤ 1048576) && (decide (x.b.length ≤ 1048576) && (decide (x.c.length ≤ 1048576) && (decide (x.d.length ≤ 1048576) && (decide (-9223372036854775808 ≤ x.k) && decide (x.k ≤ 9223372036854775807)))))
def zgW:GV × GV → Option Stp
  | (k,.sl 5 xs _) => match zty k,zb4 zj4 xs with
    | some x,some L => if elB x && (!L.isEmpty && decide (L.length ≤ 999999)) then some (x,L) else none
    | _,_ => none
  | _ => none
def znG:List GV → GH → Option (GV × GH)
  | [.ptr s 0],H => match H.objs[s]? with
    | some (.cells 92 [.map m]) => match H.objs[m]? with
      | some (.map true ls es) => if ls = kLs ∧ es.length ≤ 100000 then (zb4 zgW es).bind fun S => if zbP cfS S then some (if S.isEmpty then .nilsl else .sl 6 ((za4 (ltC cfS) S).map itG) .imm,H) else none else none
      | _ => none
    | _ => none
  | _,_ => none
theorem zpM {g:GV} {e:Ent} (h:zj4 g = some e):g = zbQ e := by
  unfold zj4 at h
  split at h
  · injection h with h; subst h; simp [zcP,zgt]
  · cases h
theorem ztz {g:GV} {e:El} (h:zty g = some e):g = elG e := by
  unfold zty at h
  split at h
  · injection h with h; subst h; simp [elC,zgt]
  · cases h
theorem zpN {α β:Type} {f:α → Option β} {e:β → α} (hf:∀ a b,f a = some b → a = e b):∀ {l:List α} {r:List β},zb4 f l = some r → l = r.map e
  | [],r,h => by simp only [zb4,Option.some.injEq] at h; subst h; rfl
  | x :: l,r,h => by
    simp only [zb4] at h
    split at h
    · rename_i a b ha hb
      injection h with h; subst h
      rw [hf _ _ ha,zpN hf hb]; rfl
    · cases h
theorem zpO {α β:Type} {f:α → Option β} {l l':List α} (h:l.Perm l'):∀ {r:List β},zb4 f l = some r → ∃ r',zb4 f l' = some r' ∧ r.Perm r' := by
  induction h with
  | nil => intro r h; exact ⟨r,h,.refl _⟩
  | cons x _ ih =>
    intro r h
    simp only [zb4] at h ⊢
    split at h
    · rename_i a b ha hb
      injection h with h; subst h
      obtain ⟨r',h1,h2⟩ := ih hb
      exact ⟨a :: r',by rw [ha,h1],h2.cons a⟩
    · cases h
  | swap x y l =>
    intro r h
    simp only [zb4] at h ⊢
    cases hx:f x <;> cases hy:f y <;> cases hl:zb4 f l <;> simp [hx,hy,hl] at h ⊢
    subst h
    exact .swap _ _ _
  | trans _ _ ih1 ih2 =>
    intro r h
    obtain ⟨r1,h1,h2⟩ := ih1 h
    obtain ⟨r2,h3,h4⟩ := ih2 h1
    exact ⟨r2,h3,h2.trans h4⟩
theorem zmZ {α β:Type} {f:α → Option β} : ∀ {l:List α} {r:List β},zb4 f l = some r → ∀ {x:α} {b:β},x ∈ l → f x = some b → b ∈ r
  | [],_,_,_,_,hx,_ => by cases hx
  | y :: l,r,h,x,b,hx,hb => by
    simp only [zb4] at h
    split at h
    · rename_i a c ha hc
      injection h with h; subst h
      rcases List.mem_cons.1 hx with rfl | hx
      · rw [hb] at ha; injection ha with ha; rw [ha]; exact List.mem_cons_self
      · exact List.mem_cons_of_mem _ (zmZ hc hx hb)
    · cases h
theorem zwh {x:El} (h:elB x = true):ElFit x ∧ ElRange x := by
  simp only [elB,Bool.and_eq_true,decide_eq_true_eq] at h
  exact ⟨⟨h.1,h.2.1,h.2.2.1,h.2.2.2.1⟩,⟨h.2.2.2.2.1,h.2.2.2.2.2⟩⟩
structure StpOk (p:Stp):Prop where
  fit:ElFit p.1
  range:ElRange p.1
  ne:p.2 ≠ []
  le:p.2.length ≤ 999999
theorem zdS {p:GV × GV} {b:Stp} (h:zgW p = some b):p.1 = elG b.1 ∧ (∃ t,p.2 = .sl 5 (b.2.map zbQ) t) ∧ StpOk b := by
  unfold zgW at h
  split at h
  · rename_i k xs t
    split at h
    · rename_i x L hx hL
      split at h
      · rename_i hc
        injection h with h; subst h
        simp only [Bool.and_eq_true,decide_eq_true_eq,Bool.not_eq_true',List.isEmpty_eq_false_iff] at hc
        obtain ⟨q1,q2⟩ := zwh hc.1
        exact ⟨ztz hx,⟨t,by rw [zpN (fun a b => zpM) hL]⟩,⟨q1,q2,hc.2.1,hc.2.2⟩⟩
      · cases h
    · cases h
  · cases h
theorem ziy:∀ {es:List (GV × GV)} {S:List Stp},zb4 zgW es = some S → zbP cfS S = true → ∀ p b,p ∈ es → zgW p = some b → za1 es (elG b.1) = some p.2
  | [],_,_,_,p,b,hp,_ => by cases hp
  | q :: es,S,h,ha,p,b,hp,hb => by
    simp only [zb4] at h
    split at h
    · rename_i bq S' hq hS
      injection h with h; subst h
      simp only [zbP,Bool.and_eq_true,List.all_eq_true,decide_eq_true_eq] at ha
      obtain ⟨e1,_,o1⟩ := zdS hq
      obtain ⟨e2,_,o2⟩ := zdS hb
      have hk1 := zfq o1.fit o1.range
      have hk2 := zfq o2.fit o2.range
      unfold za1
      rw [List.find?_cons]
      cases hk:zbU q.1 (elG b.1) with
      | true =>
        rw [e1] at hk
        have := zdV ((zaH hk1 hk2).1 hk)
        rcases List.mem_cons.1 hp with rfl | hp
        · rfl
        · exfalso
          have hbS:b ∈ S' := zmZ hS hp hb
          exact ha.1 b hbS (by show zdj bq.1 b.1 = 0; rw [this]; exact ordE_ok.self _)
      | false =>
        rcases List.mem_cons.1 hp with rfl | hp
        · rw [e2] at hk
          have:zbU (elG b.1) (elG b.1) = true := ztN hk2
          rw [this] at hk; cases hk
        · exact ziy hS ha.2 p b hp hb
    · cases h
theorem zfX {H:GH} {s m:Nat} {es:List (GV × GV)} (h1:H.objs[s]? = some (.cells 92 [.map m])) (h2:H.objs[m]? = some (.map true kLs es)) (x:El) (hx:ElFit x) (hr:ElRange x) (L:List Ent) (hne:L ≠ []) (hL:L.length ≤ 1000000) {v:GV} (hv:za1 es (elG x) = some v) (hE:Elems 5 v (L.map zbQ)) (hbo:H.bo ≤ H.objs.length) :
    ecall T znY [.ptr s 0,elG x] H = some (.sl 5 (L.map zbQ) .imm,zbR L H) := by
  have hk := zfq hx hr
  obtain ⟨w,c1,c2⟩ := zfr L _ hE hL H
  rcases c2 with ⟨h,_⟩ | ⟨_,rfl⟩
  · exact absurd h hne
  have hf:zaQ (zaD L H) [.hsl H.objs.length 0 L.length 5 false] = some (.sl 5 (L.map zbQ) .imm,zbR L H) := by
    have h1:(zaD L H).objs[H.objs.length]? = some (.row 96 (zbr L)) := by simp [zaD,hne]
    have h2:(zaD L H).bo = H.bo := by simp [zaD,hne]
    simp only [zaQ,h1,h2]
    have hl := zcm L
    have ho:((List.take (L.length * 5) (List.drop 0 (zbr L))).all GV.one) = true := by
      rw [List.drop_zero,← hl,List.take_length]; exact zg0 L
    rw [if_pos ⟨hbo,by decide,by omega,ho⟩,List.drop_zero,zdu]
    simp [zaD,zbR,hne,zg1]
  have gok := hE.ok
  have gu := zam hE
  apply optW.eq
  rw [zad zzr rfl (by simp [zlT]),zab]
  simp only [elG,elC] at hk c1 gok gu hv ⊢
  simp [zlT,zwA,h1,h2,hk,hv,c1,hf,gok,gu,za9,zc4]
end Go.Proofs.YtchjbidfmhmmhaaGreatDoor
namespace Go.Proofs.YtchjbidfmhmmhaaGreatDoor
open Go.Sh
set_option maxRecDepth 100000
def iA1:ICode := .region [⟨(some 2),none,.id,[.val .nilsl],none⟩]
def iA2:ICode :=
   .seq
    (.region [
      ⟨(some 5),none,.id,[.slot 0],none⟩,
      ⟨(some 6),none,.eq1 false .ptr,[.slot 5,.val .nilptr],none⟩])
    (.cond (.slot 6)
     (.seq
      (.region [
        ⟨(some 2),none,.id,[.val .nilsl],none⟩])
      (.ret))
     (.skip))
def iA3:ICode := .region [⟨(some 3),none,.id,[.val .nilsl],none⟩]
def iA4:List IOp := [
        ⟨(some 7),none,.id,[.slot 0],none⟩,
        ⟨(some 8),none,.nilchk,[.slot 7],none⟩,
        ⟨(some 9),none,.faddr 0,[.slot 8],none⟩,
        ⟨(some 10),none,.load 1 false,[.slot 9],none⟩]
def iA6:List IOp := [
       ⟨(some 4),none,.allocL [(.int .i64 0),(.str ⟨#[]⟩),(.str ⟨#[]⟩),(.str ⟨#[]⟩),(.str ⟨#[]⟩)],[],none⟩,
       ⟨none,none,.store 5,[.slot 4,.slot 15],none⟩]
def iA7:ICode := .region [
       ⟨(some 16),none,.id,[.slot 3],none⟩,
       ⟨(some 17),none,.load 5 true,[.slot 4],(some (.loc 4))⟩,
       ⟨(some 18),none,.id,[.slot 0],none⟩,
       ⟨(some 19),none,.load 5 true,[.slot 4],(some (.loc 4))⟩,
       ⟨(some 20),none,.call znY,[.slot 18,.slot 19],none⟩,
       ⟨(some 21),none,.build [(.int .i64 0),(.str ⟨#[]⟩),(.str ⟨#[]⟩),(.str ⟨#[]⟩),(.str ⟨#[]⟩),.nilsl] [(0,5),(5,1)],[.slot 17,.slot 20],none⟩,
       ⟨(some 22),none,.buildSl 6 1 (.agg [(.int .i64 0),(.str ⟨#[]⟩),(.str ⟨#[]⟩),(.str ⟨#[]⟩),(.str ⟨#[]⟩),.nilsl]) [0],[.slot 21],none⟩,
       ⟨(some 23),none,.appendN 115 6 96,[.slot 16,.slot 22],none⟩,
       ⟨(some 3),none,.id,[.slot 23],none⟩]
def iAe:ICode :=
     .seq
      (.region [
        ⟨(some 24),none,.id,[.slot 3],none⟩,
        ⟨(some 25),none,.call zua,[.slot 24,.val (.func 108 [] [])],none⟩])
      (.seq
       (.region [
         ⟨(some 26),none,.freeze,[.slot 3],none⟩,
         ⟨(some 2),none,.id,[.slot 26],none⟩])
       (.ret))
def zfY (L:List Stp):List GV := L.flatMap fun p => enI (toI p)
def zyl (H:GH) (L:List Stp) (v:GV):Prop := (L = [] ∧ v = .nilsl) ∨ (L ≠ [] ∧ ∃ q,v = .hsl q 0 L.length 6 false ∧ H.objs[q]? = some (.row 115 (zfY L)) ∧ H.bo ≤ q)
def ztn (s idr:Nat) (v:GV):List GV := [.ptr s 0,.junk,.junk,v,.junk,.junk,.junk,.junk,.junk,.junk,.junk,.ptr idr 0]
structure InvA (s m idr:Nat) (es:List (GV × GV)) (S:List Stp) (x:List (GV × GV)) (l:List GV) (H:GH):Prop where
  ex:∃ done xs v3,zb4 zgW x = some xs ∧ (done ++ xs).Perm S ∧ l = ztn s idr v3 ∧ zyl H done v3
  h1:H.objs[s]? = some (.cells 92 [.map m])
  h2:H.objs[m]? = some (.map true kLs es)
  h3:H.objs[idr]? = some .dead
  bo:H.bo = idr + 1
  le:H.bo ≤ H.objs.length
  ls:s < idr
  lm:m < idr
theorem zpP {T:Nat → Option IFun} {ops:List IOp} {c:ICode} {s s2:St} {r:GExit} (h:erun T (.seq (.region ops) c) s = some (r,s2)):∃ s1,zbA (ecall T) ops s = some s1 ∧ erun T c s1 = some (r,s2) := by
  rw [znt,ze7] at h
  cases hg:zbA (ecall T) ops s with
  | none => rw [hg] at h; cases h
  | some s1 => rw [hg] at h; exact ⟨s1,rfl,h⟩
theorem zlx (p:El × GV):(enI p).length = 6 := rfl
theorem zgX (L:List Stp):(zfY L).length = L.length * 6 := by
  induction L with
  | nil => rfl
  | cons p L ih => simp only [zfY,List.flatMap_cons,List.length_append,List.length_cons,zlx] at ih ⊢; omega
theorem zBl {s idr:Nat} {v:GV} {l:List GV} (h0:zaf l 0 = .ptr s 0) (h3:zaf l 3 = v) (hv:v.ok = true) (h11:zaf l 11 = .ptr idr 0):zvO (ztn s idr v) l := by
  intro t
  match t with
  | 0 => exact .inr ⟨h0.symm,rfl⟩
  | 3 => exact .inr ⟨h3.symm,hv⟩
  | 11 => exact .inr ⟨h11.symm,rfl⟩
  | 1 | 2 | 4 | 5 | 6 | 7 | 8 | 9 | 10 => exact .inl rfl
  | n + 12 => exact .inl rfl
set_option maxHeartbeats 1000000 in
theorem ztA {s m idr:Nat} {es:List (GV × GV)} {S:List Stp} (hS:zb4 zgW es = some S) (ha:zbP cfS S = true) (hlen:S.length ≤ 100000) (p:GV × GV) (x:List (GV × GV)) (l:List GV) (H:GH) (hp:p ∈ es) (hi:InvA s m idr es S (p :: x) l H) :
    ∃ s1 s2 l3,zbA (ecall T) iA6 ⟨⟨lput l 15 p.1,0⟩,H⟩ = some s1 ∧ erun T iA7 s1 = some (.normal,s2) ∧ zvO l3 s2.e.s ∧ InvA s m idr es S x l3 s2.H := by
  obtain ⟨⟨done,xs,v3,q1,q2,rfl,q4⟩,h1,h2,h3,hbo,hle,hls,hlm⟩ := hi
  simp only [zb4] at q1
  split at q1
  case h_2 => cases q1
  rename_i b xs' hb hxs
  injection q1 with q1; subst q1
  obtain ⟨e1,⟨tg,e2⟩,ok⟩ := zdS hb
  have hget := ziy hS ha p b hp hb
  rw [e2] at hget
  have hent := zfX h1 h2 b.1 ok.fit ok.range b.2 ok.ne (by have := ok.le; omega) hget (.sl _ _) hle
  have hdl:done.length + 1 ≤ 100000 := by
    have := q2.length_eq
    simp only [List.length_append,List.length_cons] at this
    omega
  have hk:zbR b.2 H = { H with objs := H.objs ++ [.dead] } := by simp [zbR,ok.ne]
  -- the row
  obtain ⟨v4,H4,happ,hv4,hu4,hout,g1,g2,g3,gbo,gle⟩:∃ v4 H4,za7 (zbR b.2 H) 115 6 96 v3 (.sl 6 [itG b] .exact) = some (v4,H4) ∧ v4.ok = true ∧ (∀ t,zbt t v4 = v4) ∧ zyl H4 (done ++ [b]) v4 ∧
      H4.objs[s]? = some (.cells 92 [.map m]) ∧ H4.objs[m]? = some (.map true kLs es) ∧ H4.objs[idr]? = some .dead ∧ H4.bo = idr + 1 ∧ H4.bo ≤ H4.objs.length := by
    have hrow:zfY (done ++ [b]) = zfY done ++ enI (toI b) := by simp [zfY]
    have k1 := (zb0 b.2 H).get h1
    have k2 := (zb0 b.2 H).get h2
    have k3 := (zb0 b.2 H).get h3
    have kb := (zb0 b.2 H).bo
    have kl := (zb0 b.2 H).len
    rcases q4 with ⟨rfl,rfl⟩ | ⟨hne,q,rfl,hq,hbq⟩
    · refine ⟨_,_,rfl,rfl,fun _ => rfl,.inr ⟨by simp,(zbR b.2 H).objs.length,rfl, ?_, ?_⟩, ?_, ?_, ?_, ?_, ?_⟩
      · simp [GH.newObj,hrow,zfY,itG]
      · show (zbR b.2 H).bo ≤ _; rw [kb]; omega
      · simp only [GH.newObj]; rw [List.getElem?_append_left (List.getElem?_eq_some_iff.1 k1).1]; exact k1
      · simp only [GH.newObj]; rw [List.getElem?_append_left (List.getElem?_eq_some_iff.1 k2).1]; exact k2
      · simp only [GH.newObj]; rw [List.getElem?_append_left (List.getElem?_eq_some_iff.1 k3).1]; exact k3
      · show (zbR b.2 H).bo = _; rw [kb,hbo]
      · show (zbR b.2 H).bo ≤ _; rw [kb]; simp [GH.newObj]; omega
    · have hqk := (zb0 b.2 H).get hq
      have hqlt := (List.getElem?_eq_some_iff.1 hqk).1
      have hap:za7 (zbR b.2 H) 115 6 96 (.hsl q 0 done.length 6 false) (.sl 6 [itG b] .exact) = some (.hsl (zbR b.2 H).objs.length 0 (done.length + 1) 6 false,{ zbR b.2 H with objs := (zbR b.2 H).objs.set q .dead ++ [.row 115 (zfY done ++ [itG b].flatMap GV.cells)] }) := by
        simp only [za7,zbT,if_true,Option.bind_some]
        exact zdH (news := [itG b]) (bytes := 96) hqk (by simp [zbT]) (zgX done) (by rw [kb]; exact hbq) (by simp [zeN]; omega) (by simp [maxLen]; omega) (by simp)
      have keep:∀ {i:Nat} {o:GObj},(zbR b.2 H).objs[i]? = some o → i < H.bo → ((zbR b.2 H).objs.set q .dead ++ [.row 115 (zfY done ++ [itG b].flatMap GV.cells)])[i]? = some o := fun {i o} h hi => by
        rw [List.getElem?_append_left (by rw [List.length_set]; exact (List.getElem?_eq_some_iff.1 h).1),List.getElem?_set_ne (by omega)]; exact h
      refine ⟨_,_,hap,rfl,fun _ => rfl,.inr ⟨by simp,(zbR b.2 H).objs.length,by simp, ?_, ?_⟩, ?_, ?_, ?_, ?_, ?_⟩
      · simp [hrow,itG]
      · show (zbR b.2 H).bo ≤ _; rw [kb]; omega
      · exact keep k1 (by omega)
      · exact keep k2 (by omega)
      · exact keep k3 (by omega)
      · show (zbR b.2 H).bo = _; rw [kb,hbo]
      · show (zbR b.2 H).bo ≤ _; rw [kb]; simp; omega
  have hok3:v3.ok = true := by rcases q4 with ⟨_,rfl⟩ | ⟨_,q,rfl,_⟩ <;> rfl
  have hu3:∀ t,zbt t v3 = v3 := fun t => by rcases q4 with ⟨_,rfl⟩ | ⟨_,q,rfl,_⟩ <;> rfl
  have key:optW (erun T (.seq (.region iA6) iA7) ⟨⟨lput (ztn s idr v3) 15 p.1,0⟩,H⟩) fun r => r.1 = .normal ∧ zvO (ztn s idr v4) r.2.e.s ∧ r.2.H = H4 := by
    simp only [elG,elC] at hent e1
    simp only [itG,enI,toI,elC,List.cons_append,List.nil_append] at happ
    simp [iA6,iA7,ztn,e1,hent,zaU,zae,zan,happ,hok3,hu3,hv4,hu4]
    exact zBl (by simp) (by simp) hv4 (by simp)
  obtain ⟨⟨r,s2⟩,r1,r2,r3,r4⟩ := key
  simp only at r2 r3 r4
  subst r2
  obtain ⟨s1,t1,t2⟩ := zpP r1
  refine ⟨s1,s2,ztn s idr v4,t1,t2,r3,⟨⟨done ++ [b],xs',v4,hxs,by rw [List.append_assoc]; exact q2,rfl,by rw [r4]; exact hout⟩, ?_, ?_, ?_, ?_, ?_,hls,hlm⟩⟩
  all_goals rw [r4]; assumption
theorem zm0 {α β:Type} {f:α → β} {l1:β → β → Bool} {l2:α → α → Bool} (h:∀ a b,l1 (f a) (f b) = l2 a b) (x:α):∀ l:List α,ztw l1 (f x) (l.map f) = (ztw l2 x l).map f
  | [] => rfl
  | y :: l => by
    simp only [List.map_cons,ztw,h]
    split
    · rw [List.map_cons,zm0 h x l]
    · rfl
theorem zj5 {α β:Type} {f:α → β} {l1:β → β → Bool} {l2:α → α → Bool} (h:∀ a b,l1 (f a) (f b) = l2 a b):∀ l:List α,za4 l1 (l.map f) = (za4 l2 l).map f
  | [] => rfl
  | x :: l => by
    have ih := zj5 h l
    simp only [za4,List.map_cons,List.foldr_cons] at ih ⊢
    rw [ih,zm0 h]
theorem zg7 {β:Type} {c:β → β → Int} : ∀ {l:List β},zbP c l = true ↔ l.Pairwise fun a b => c a b ≠ 0
  | [] => by simp [zbP]
  | x :: l => by
    simp only [zbP,Bool.and_eq_true,List.all_eq_true,decide_eq_true_eq,List.pairwise_cons,zg7 (l := l)]
theorem znH {β:Type} {c:β → β → Int} (hs:∀ x y,c y x = - c x y) {l l':List β} (hp:l.Perm l') (h:zbP c l = true):zbP c l' = true := by
  rw [zg7] at *
  exact (hp.pairwise_iff (fun {x y} h => by have := hs x y; omega)).1 h
theorem zly:Sort.SWO (ltC cfS) := ordE_ok.swo fun p:Stp => p.1
theorem zff {done S:List Stp} (hp:done.Perm S) (ha:zbP cfS S = true):za4 (ltC cfS) done = za4 (ltC cfS) S :=
  zgr ((za2 _).trans hp) (zcZ zly _) zly (fun a b h1 h2 e1 e2 => zjx (fun x y => ordE_ok.swap x.1 y.1) S ha a b h1 h2 (by
    have s := ordE_ok.swap a.1 b.1
    have h1':¬ zdj a.1 b.1 < 0 := fun h => by
      have e1:decide (zdj a.1 b.1 < 0) = false := e1
      rw [decide_eq_true h] at e1; cases e1
    have h2':¬ zdj b.1 a.1 < 0 := fun h => by
      have e2:decide (zdj b.1 a.1 < 0) = false := e2
      rw [decide_eq_true h] at e2; cases e2
    show zdj a.1 b.1 = 0
    omega))
theorem znI (n:Nat) (L:List Ent):zgs (n + 2) (.sl 5 (L.map zbQ) .imm) = true := by
  simp only [zgs,Bool.and_true,List.all_eq_true,List.mem_map]
  rintro x ⟨e,_,rfl⟩ c hc
  simp only [zcP,GV.cells,List.mem_cons,List.mem_nil_iff,or_false] at hc
  rcases hc with rfl | rfl | rfl | rfl | rfl <;> rfl
theorem zwi (p:Stp):deI (enI (toI p)) = some (toI p) := by
  simp only [enI,toI,elC,List.cons_append,List.nil_append,deI,zbu]
  rw [if_pos (by simp only [Bool.and_eq_true]; exact ⟨⟨rfl,rfl⟩,znI 8 _⟩)]
theorem zpQ (p:El × GV) (h:p.2.one = true):∀ c ∈ enI p,c.one = true := by
  intro c hc
  simp only [enI,elC,List.cons_append,List.nil_append,List.mem_cons,List.mem_nil_iff,or_false] at hc
  rcases hc with rfl | rfl | rfl | rfl | rfl | rfl <;> first | rfl | exact h
theorem znJ {H:GH} {q:Nat} {L:List Stp} (hne:L ≠ []) (hle:L.length ≤ 1000000) (hq:H.objs[q]? = some (.row 115 (zfY L))) (hbq:H.bo ≤ q) (ha:zbP cfS L = true) :
    ecall T zua [.hsl q 0 L.length 6 false,.func 108 [] []] H = some (.tup [],{ H with objs := H.objs.set q (.row 115 (zfY (za4 (ltC cfS) L))) }) := by
  refine zlA zzs (by simp) ?_ ⟨rfl,rfl⟩
  have hpos:0 < L.length := List.length_pos_iff.2 hne
  have hone:(zfY L).all GV.one = true := by
    rw [List.all_eq_true]
    intro c hc
    obtain ⟨p,_,hp⟩ := List.mem_flatMap.1 hc
    exact zpQ (toI p) rfl c hp
  have hrow:zmQ 6 L.length (zfY L) = L.map fun p => enI (toI p) := zfS (en := fun p => enI (toI p)) (fun _ => rfl) L
  have hdec:ztx deI (zmQ 6 L.length (zfY L)) = some (L.map toI) := by
    rw [hrow]
    have := zg5 (de := deI) (en := enI) (L.map toI) (fun b hb => by obtain ⟨p,_,rfl⟩ := List.mem_map.1 hb; exact zwi p)
    rwa [List.map_map] at this
  have hch:zbP cfI (L.map toI) = true := by
    rw [zg7] at *
    rw [List.pairwise_map]
    exact ha
  have hs:(za4 (ltC cfI) (L.map toI)).flatMap enI = zfY (za4 (ltC cfS) L) := by
    rw [zj5 (f := toI) (l1 := ltC cfI) (l2 := ltC cfS) (fun a b => rfl) L,List.flatMap_map]; rfl
  simp only [zju,zgK,hq]
  rw [if_pos ⟨trivial,trivial,hbq,hpos,by decide,hle,zgX L,hone⟩,hdec]
  simp only [Option.bind_some,hch,if_true,hs]
theorem zgy:∀ L:List Stp,za0 6 L.length (zfY L) = L.map itG
  | [] => rfl
  | p :: L => by
    have h:zfY (p :: L) = enI (toI p) ++ zfY L := by simp [zfY]
    have e1:(enI (toI p) ++ zfY L).take 6 = enI (toI p) := by rw [← zlx (toI p)]; simp
    have e2:(enI (toI p) ++ zfY L).drop 6 = zfY L := by rw [← zlx (toI p)]; simp
    rw [h]
    simp only [List.length_cons,za0,List.map_cons,e1,e2,zgy L]
    rfl
theorem zcN (a b n:Nat):∀ (xs:List GV),(∀ x ∈ xs,zaG a b n x = some x) → xs.mapM (zaG a b n) = some xs
  | [],_ => rfl
  | x :: xs,h => by
    rw [List.mapM_cons,h x (by simp),zcN a b n xs fun y hy => h y (by simp [hy])]; rfl
theorem zlz (a b n:Nat) (L:List Stp):zaG a b (n + 5) (.sl 6 (L.map itG) .imm) = some (.sl 6 (L.map itG) .imm) := by
  show Option.map (fun xs => GV.sl 6 xs .imm) ((L.map itG).mapM (zaG a b (n + 4))) = _
  rw [zcN]
  · rfl
  · intro x hx
    obtain ⟨p,_,rfl⟩ := List.mem_map.1 hx
    show Option.map GV.agg ((enI (toI p)).mapM (zaG a b (n + 3))) = _
    rw [zcN]
    · rfl
    · intro c hc
      simp only [enI,toI,elC,List.cons_append,List.nil_append,List.mem_cons,List.mem_nil_iff,or_false] at hc
      rcases hc with rfl | rfl | rfl | rfl | rfl | rfl <;> try rfl
      show Option.map (fun xs => GV.sl 5 xs .imm) ((p.2.map zbQ).mapM (zaG a b (n + 2))) = _
      rw [zcN]
      · rfl
      · intro x hx
        obtain ⟨e,_,rfl⟩ := List.mem_map.1 hx
        rfl
theorem zwj {s m idr:Nat} {es:List (GV × GV)} {S:List Stp} (ha:zbP cfS S = true) (hlen:S.length ≤ 100000) (nO nT:Nat) (l:List GV) (H:GH) (hi:InvA s m idr es S [] l H) :
    ∃ s6 v0,erun T iAe ⟨⟨l,0⟩,H⟩ = some (.ret,s6) ∧ zax s6 [.slot 2] = some v0 ∧ zaG nO nT 100 v0 = some (if S.isEmpty then .nilsl else .sl 6 ((za4 (ltC cfS) S).map itG) .imm) := by
  obtain ⟨⟨done,xs,v3,q1,q2,rfl,q4⟩,h1,h2,h3,hbo,hle,hls,hlm⟩ := hi
  simp only [zb4,Option.some.injEq] at q1
  subst q1
  rw [List.append_nil] at q2
  have hnil:ecall T zua [.nilsl,.func 108 [] []] H = some (.tup [],H) := zlA zzs (by simp) rfl ⟨rfl,rfl⟩
  rcases q4 with ⟨rfl,rfl⟩ | ⟨hne,q,rfl,hq,hbq⟩
  · have hS:S = [] := q2.symm.eq_nil
    subst hS
    have key:optW (erun T iAe ⟨⟨ztn s idr .nilsl,0⟩,H⟩) fun r => r.1 = .ret ∧ zax r.2 [.slot 2] = some .nilsl := by
      simp [iAe,ztn,hnil,za9,zc4]
    obtain ⟨⟨r,s6⟩,r1,r2,r3⟩ := key
    simp only at r2
    subst r2
    exact ⟨s6,_,r1,r3,rfl⟩
  · have hS:S ≠ [] := fun h => hne (by rw [h] at q2; exact q2.eq_nil)
    have had := znH (fun x y => ordE_ok.swap x.1 y.1) q2.symm ha
    have hdl := q2.length_eq
    have hso := znJ hne (by omega) hq hbq had
    rw [zff q2 ha] at hso
    have hpl:(za4 (ltC cfS) S).length = done.length := by rw [(za2 S).length_eq,hdl]
    have hqlt := (List.getElem?_eq_some_iff.1 hq).1
    obtain ⟨L,hL⟩:∃ L,L = za4 (ltC cfS) S := ⟨_,rfl⟩
    rw [← hL] at hso hpl ⊢
    rw [← hpl] at hso
    have hone:(zfY L).all GV.one = true := by
      rw [List.all_eq_true]
      intro c hc
      obtain ⟨p,_,hp⟩ := List.mem_flatMap.1 hc
      exact zpQ (toI p) rfl c hp
    have hpos:0 < L.length := by rw [hpl]; exact List.length_pos_iff.2 hne
    have hfr:zaQ { H with objs := H.objs.set q (.row 115 (zfY L)) } [.hsl q 0 L.length 6 false] = some (.sl 6 (L.map itG) .imm,{ H with objs := H.objs.set q .dead }) := by
      have hg:(H.objs.set q (.row 115 (zfY L)))[q]? = some (.row 115 (zfY L)) := List.getElem?_set_self hqlt
      have ho:((List.take (L.length * 6) (List.drop 0 (zfY L))).all GV.one) = true := by
        rw [List.drop_zero,← zgX,List.take_length]; exact hone
      simp only [zaQ,hg]
      rw [if_pos ⟨hbq,by decide,by rw [zgX]; omega,ho⟩,List.drop_zero,zgy,List.set_set]
    have key:optW (erun T iAe ⟨⟨ztn s idr (.hsl q 0 done.length 6 false),0⟩,H⟩) fun r => r.1 = .ret ∧ zax r.2 [.slot 2] = some (.sl 6 (L.map itG) .imm) := by
      rw [← hpl]
      simp [iAe,ztn,hso,za9,hfr]
    obtain ⟨⟨r,s6⟩,r1,r2,r3⟩ := key
    simp only at r2
    subst r2
    refine ⟨s6,_,r1,r3, ?_⟩
    rw [if_neg (by simpa using hS)]
    exact zlz nO nT 95 L
end Go.Proofs.YtchjbidfmhmmhaaGreatDoor
namespace Go.Proofs.YtchjbidfmhmmhaaGreatDoor
open Go.Sh
set_option maxRecDepth 100000
abbrev hpA:List Nat := [1048580,16777239,8388634]
theorem zym:MildOk T hpA := by
  intro f hf F hF
  have:f = 14680087 ∨ f = 6291482 := by
    simp [hpA] at hf
    omega
  rcases this with rfl | rfl
  · have:T 14680087 = none := by kernel_rfl
    rw [this] at hF; cases hF
  · have:T 6291482 = none := by kernel_rfl
    rw [this] at hF; cases hF
theorem ztB (args:List GV) (H:GH) (v:GV) (h:ztr ⟨8,[],.trap,0,15,znG⟩ args H = some v):args.length ≤ 27 ∧ Nonempty (RangeRun T iA1 iA2 iA3 iA4 iA6 iA7 iAe 11 12 13 14 15 10 [.slot 2] args H v) := by
  simp only [ztr,Option.map_eq_some_iff] at h
  obtain ⟨⟨v',H'⟩,h,rfl⟩ := h
  unfold znG at h
  split at h
  case h_2 => cases h
  rename_i s
  split at h
  case h_2 => cases h
  rename_i m h1
  split at h
  case h_2 => cases h
  rename_i ls es h2
  split at h
  case isFalse => cases h
  rename_i hc
  obtain ⟨rfl,hel⟩ := hc
  simp only [Option.bind_eq_some_iff] at h
  obtain ⟨S,hS,h⟩ := h
  split at h
  case isFalse => cases h
  rename_i ha
  simp only [Option.some.injEq,Prod.mk.injEq] at h
  obtain ⟨rfl,rfl⟩ := h
  have hs:s < H.objs.length := (List.getElem?_eq_some_iff.1 h1).1
  have hm:m < H.objs.length := (List.getElem?_eq_some_iff.1 h2).1
  have hSl:S.length ≤ 100000 := by
    have:∀ {es:List (GV × GV)} {S:List Stp},zb4 zgW es = some S → S.length = es.length := fun {es} => by
      induction es with
      | nil => intro S h; simp only [zb4,Option.some.injEq] at h; subst h; rfl
      | cons p es ih =>
        intro S h
        simp only [zb4] at h
        split at h
        · rename_i a b _ hb
          injection h with h; subst h
          simp [ih hb]
        · cases h
    rw [this hS]; exact hel
  refine ⟨by simp,⟨?_⟩⟩
  have hmlt:m < H.objs.length := hm
  exact
  { s1 := ⟨⟨lput [.ptr s 0] 2 .nilsl,0⟩,{ H with bo := H.objs.length,bt := H.toks.length }⟩
    s2 := ⟨⟨lput (lput (lput [.ptr s 0] 2 .nilsl) 5 (.ptr s 0)) 6 (.bool false),0⟩,{ H with bo := H.objs.length,bt := H.toks.length }⟩
    s3 := ⟨⟨lput (lput (lput (lput [.ptr s 0] 2 .nilsl) 5 (.ptr s 0)) 6 (.bool false)) 3 .nilsl,0⟩,{ H with bo := H.objs.length,bt := H.toks.length }⟩
    s4 := ⟨⟨lput (lput (lput (lput (lput (lput (lput (lput [.ptr s 0] 2 .nilsl) 5 (.ptr s 0)) 6 (.bool false)) 3 .nilsl) 7 (.ptr s 0)) 8 (.ptr s 0)) 9 (.ptr s 0)) 10 (.map m),0⟩,{ H with bo := H.objs.length,bt := H.toks.length }⟩
    e1 := by
      apply optW.eq
      simp [iA1]
    e2 := by
      apply optW.eq
      simp [iA2]
    e3 := by
      apply optW.eq
      simp [iA3]
    e4 := by
      have key:optW (erun T (.region iA4) ⟨⟨lput (lput (lput (lput [.ptr s 0] 2 .nilsl) 5 (.ptr s 0)) 6 (.bool false)) 3 .nilsl,0⟩,{ H with bo := H.objs.length,bt := H.toks.length }⟩) fun r => r = (.normal,⟨⟨lput (lput (lput (lput (lput (lput (lput (lput [.ptr s 0] 2 .nilsl) 5 (.ptr s 0)) 6 (.bool false)) 3 .nilsl) 7 (.ptr s 0)) 8 (.ptr s 0)) 9 (.ptr s 0)) 10 (.map m),0⟩,{ H with bo := H.objs.length,bt := H.toks.length }⟩) := by
        simp [iA4,h1]
      have h := optW.eq key
      rw [ze7,Option.map_eq_some_iff] at h
      obtain ⟨s',q1,q2⟩ := h
      injection q2 with _ q2
      rw [q1,q2]
    id := m
    ag := true
    ls := kLs
    es := es
    hmt := by simp
    hob := h2
    hid := hm
    hbl := Nat.le_refl _
    l4 := [.ptr s 0,.junk,.junk,.nilsl]
    hw4 := by
      intro t
      match t with
      | 0 => exact .inr ⟨by simp,rfl⟩
      | 3 => exact .inr ⟨by simp,rfl⟩
      | 1 | 2 => exact .inl rfl
      | n + 4 => exact .inl rfl
    hj := ⟨rfl,rfl,rfl,rfl⟩
    Inv := InvA s m H.objs.length es S
    hperm := fun x y l H' hp hi => by
      obtain ⟨⟨done,xs,v3,q1,q2,q3,q4⟩,r1,r2,r3,r4,r5,r6,r7⟩ := hi
      obtain ⟨ys,p1,p2⟩ := zpO hp q1
      exact ⟨⟨done,ys,v3,p1,(p2.symm.append_left done).trans q2,q3,q4⟩,r1,r2,r3,r4,r5,r6,r7⟩
    hjunk := fun x l H' hi => by
      obtain ⟨⟨done,xs,v3,q1,q2,rfl,q4⟩,r1,r2,r3,r4,r5,r6,r7⟩ := hi
      exact ⟨rfl,rfl,rfl,rfl,r3⟩
    hinit := by
      have g:∀ {i:Nat} {o:GObj},H.objs[i]? = some o → (H.objs ++ [GObj.dead])[i]? = some o := fun {i o} h => by
        rw [List.getElem?_append_left (List.getElem?_eq_some_iff.1 h).1]; exact h
      refine ⟨⟨[],S,.nilsl,hS,.refl _,rfl,.inl ⟨rfl,rfl⟩⟩,g h1,g h2, ?_,rfl, ?_,hs,hm⟩
      · show (H.objs ++ [GObj.dead])[H.objs.length]? = _
        simp
      · show H.objs.length + 1 ≤ (H.objs ++ [GObj.dead]).length
        simp
    hbody := fun p x l H' hp hi => ztA hS ha hSl p x l H' hp hi
    hend := fun l H' hi _ _ => zwj ha hSl _ _ l H' hi }
set_option maxHeartbeats 1000000 in
theorem zdT:zdG Tryz.prog 60 ⟨8,[],.trap,0,15,znG⟩ :=
  zsZ (by kernel_rfl) (by kernel_rfl) T_ok zym rfl Tryz.func60 (by kernel_rfl) (b0 := 0) (b1 := 1) (it := 11) (nx := 12) (okT := 13) (en := 14) (kv := 15) (mt := 10) (res := [.slot 2]) (i1 := iA1) (i2 := iA2) (i3 := iA3) (ie := iAe) (ios4 := iA4) (ios6 := iA6) (ic7 := iA7) (ty := 90) (tk := 32) (tv := 93) (pre4 := [_,_,_,_])
    rfl (by kernel_rfl) (by kernel_rfl) (by kernel_rfl) (by kernel_rfl) (by kernel_rfl) rfl rfl rfl rfl Tryz.underlying90 rfl rfl rfl rfl rfl rfl rfl rfl rfl rfl rfl rfl rfl rfl (by decide) (by decide) (by kernel_rfl) (by kernel_rfl) (by kernel_rfl) ztB
end Go.Proofs.YtchjbidfmhmmhaaGreatDoor
namespace Go.Proofs.YtchjbidfmhmmhaaGreatDoor
open Go.Sh
set_option maxRecDepth 100000
def zyn:IFun := ⟨8,[],.trap,0,15,znG⟩
def zBm:List (Nat × List Nat × IFun) := rows ++ [(60,[],zyn)]
def T2:Nat → Option IFun := zdJ zBm
theorem zBn:zci Tryz.prog T2 := zgu (by kernel_rfl) (RowsOk.append T_rows (.lib zdT (by decide) .nil))
theorem zpR (f:Nat) (F:IFun) (h:T f = some F):T2 f = some F := zln rows _ f F h
theorem up {f:Nat} {args:List GV} {H:GH} {r:GV × GH} (h:ecall T f args H = some r):ecall T2 f args H = some r := zvQ zpR h
theorem zyo:T2 60 = some zyn := by kernel_rfl
end Go.Proofs.YtchjbidfmhmmhaaGreatDoor
