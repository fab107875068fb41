/- Own work: the zaN machine and what it shows, part Al. -/
import Derived.Test.YtchjbidfmhmmhaaGreatDoorDo
import Derived.Test.YtchjbidfmhmmhaaGreatDoorEn
import Derived.Test.YtchjbidfmhmmhaaGreatDoorShH
set_option linter.all false
namespace Go.Proofs.YtchjbidfmhmmhaaGreatDoor
open Go.Sh
set_option maxRecDepth 100000
abbrev Stp:=El × List Ent
def toI (p:Stp):El × GV:=(p.1,.sl 5 (p.2.map zbV) .imm)
def itG (p:Stp):GV:=.agg (enI (toI p))
def cfS (p q:Stp):Int:=zdo p.1 q.1
def zb9 {α β:Type} (f:α→Option β):List α→Option (List β)
  | []=>some []
  | x::l=>match f x,zb9 f l with
    | some a,some b=>some (a::b)
    | _,_=>none
def zku:GV→Option Ent
  | .agg [.int .i64 r,.int .i64 c,.int .i64 k,.int .i64 n,.str t]=>some ⟨r,c,k,n,t.data.toList⟩
  | _=>none
def zuo:GV→Option El
  | .agg [.int .i64 k,.str a,.str b,.str c,.str d]=>some ⟨k,a.data.toList,b.data.toList,c.data.toList,d.data.toList⟩
  | _=>none
def elB (x:El):Bool:=decide (x.a.length≤1048576)&&(decide (x.b.length≤1048576)&&(decide (x.c.length≤1048576)&&(decide (x.d.length≤1048576)&&(decide (-9223372036854775808≤x.k)&&decide (x.k≤9223372036854775807)))))
def zhg:GV × GV→Option Stp
  | (k,.sl 5 xs _)=>match zuo k,zb9 zku xs with
    | some x,some L=>if elB x&&(!L.isEmpty&&decide (L.length≤999999)) then some (x,L) else none
    | _,_=>none
  | _=>none
def zom:List GV→GH→Option (GV × GH)
  | [.ptr s 0],H=>match H.objs[s]? with
    | some (.cells 92 [.map m])=>match H.objs[m]? with
      | some (.map true ls es)=>if ls=kLs∧es.length≤100000 then (zb9 zhg es).bind fun S=>if zbU cfS S then some (if S.isEmpty then .nilsl else .sl 6 ((za0 (ltC cfS) S).map itG) .imm,H) else none else none
      | _=>none
    | _=>none
  | _,_=>none
theorem zqw {g:GV} {e:Ent} (h:zku g=some e):g=zbV e:=by
  unfold zku at h
  split at h
  · injection h with h; subst h; simp [zcV,zgK]
  · cases h
theorem zup {g:GV} {e:El} (h:zuo g=some e):g=elG e:=by
  unfold zuo at h
  split at h
  · injection h with h; subst h; simp [elC,zgK]
  · cases h
theorem zqx {α β:Type} {f:α→Option β} {e:β→α} (hf:∀ a b,f a=some b→a=e b):∀ {l:List α} {r:List β},zb9 f l=some r→l=r.map e
  | [],r,h=>by simp only [zb9,Option.some.injEq] at h; subst h; rfl
  | x::l,r,h=>by
    simp only [zb9] at h
    split at h
    · rename_i a b ha hb
      injection h with h; subst h
      rw [hf _ _ ha,zqx hf hb]; rfl
    · cases h
theorem zqy {α β:Type} {f:α→Option β} {l l':List α} (h:l.Perm l'):∀ {r:List β},zb9 f l=some r→∃ r',zb9 f l'=some r'∧r.Perm r':=by
  induction h with
  | nil=>intro r h; exact ⟨r,h,.refl _⟩
  | cons x _ ih =>
    intro r h
    simp only [zb9] at h ⊢
    split at h
    · rename_i a b ha hb
      injection h with h; subst h
      obtain ⟨r',h1,h2⟩:=ih hb
      exact ⟨a::r',by rw [ha,h1],h2.cons a⟩
    · cases h
  | swap x y l =>
    intro r h
    simp only [zb9] at h ⊢
    cases hx:f x <;> cases hy:f y <;> cases hl:zb9 f l <;> simp [hx,hy,hl] at h ⊢
    subst h
    exact .swap _ _ _
  | trans _ _ ih1 ih2 =>
    intro r h
    obtain ⟨r1,h1,h2⟩:=ih1 h
    obtain ⟨r2,h3,h4⟩:=ih2 h1
    exact ⟨r2,h3,h2.trans h4⟩
theorem znA {α β:Type} {f:α→Option β} : ∀ {l:List α} {r:List β},zb9 f l=some r→∀ {x:α} {b:β},x∈l→f x=some b→b∈r
  | [],_,_,_,_,hx,_=>by cases hx
  | y::l,r,h,x,b,hx,hb=>by
    simp only [zb9] at h
    split at h
    · rename_i a c ha hc
      injection h with h; subst h
      rcases List.mem_cons.1 hx with rfl | hx
      · rw [hb] at ha; injection ha with ha; rw [ha]; exact List.mem_cons_self
      · exact List.mem_cons_of_mem _ (znA hc hx hb)
    · cases h
theorem zxc {x:El} (h:elB x=true):ElFit x∧ElRange x:=by
  simp only [elB,Bool.and_eq_true,decide_eq_true_eq] at h
  exact ⟨⟨h.1,h.2.1,h.2.2.1,h.2.2.2.1⟩,⟨h.2.2.2.2.1,h.2.2.2.2.2⟩⟩
structure StpOk (p:Stp):Prop where
  fit:ElFit p.1
  range:ElRange p.1
  ne:p.2≠[]
  le:p.2.length≤999999
theorem zd0 {p:GV × GV} {b:Stp} (h:zhg p=some b):p.1=elG b.1∧(∃ t,p.2=.sl 5 (b.2.map zbV) t)∧StpOk b:=by
  unfold zhg at h
  split at h
  · rename_i k xs t
    split at h
    · rename_i x L hx hL
      split at h
      · rename_i hc
        injection h with h; subst h
        simp only [Bool.and_eq_true,decide_eq_true_eq,Bool.not_eq_true',List.isEmpty_eq_false_iff] at hc
        obtain ⟨q1,q2⟩:=zxc hc.1
        exact ⟨zup hx,⟨t,by rw [zqx (fun a b=>zqw) hL]⟩,⟨q1,q2,hc.2.1,hc.2.2⟩⟩
      · cases h
    · cases h
  · cases h
theorem ziW:∀ {es:List (GV × GV)} {S:List Stp},zb9 zhg es=some S→zbU cfS S=true→∀ p b,p∈es→zhg p=some b→zaZ es (elG b.1)=some p.2
  | [],_,_,_,p,b,hp,_=>by cases hp
  | q::es,S,h,ha,p,b,hp,hb=>by
    simp only [zb9] at h
    split at h
    · rename_i bq S' hq hS
      injection h with h; subst h
      simp only [zbU,Bool.and_eq_true,List.all_eq_true,decide_eq_true_eq] at ha
      obtain ⟨e1,_,o1⟩:=zd0 hq
      obtain ⟨e2,_,o2⟩:=zd0 hb
      have hk1:=zfJ o1.fit o1.range
      have hk2:=zfJ o2.fit o2.range
      unfold zaZ
      rw [List.find?_cons]
      cases hk:zbY q.1 (elG b.1) with
      | true =>
        rw [e1] at hk
        have:=zd3 ((zaK hk1 hk2).1 hk)
        rcases List.mem_cons.1 hp with rfl | hp
        · rfl
        · exfalso
          have hbS:b∈S':=znA hS hp hb
          exact ha.1 b hbS (by show zdo bq.1 b.1=0; rw [this]; exact ordE_ok.self _)
      | false =>
        rcases List.mem_cons.1 hp with rfl | hp
        · rw [e2] at hk
          have:zbY (elG b.1) (elG b.1)=true:=zuD hk2
          rw [this] at hk; cases hk
        · exact ziW hS ha.2 p b hp hb
    · cases h
theorem zgh {H:GH} {s m:Nat} {es:List (GV × GV)} (h1:H.objs[s]?=some (.cells 92 [.map m])) (h2:H.objs[m]?=some (.map true kLs es)) (x:El) (hx:ElFit x) (hr:ElRange x) (L:List Ent) (hne:L≠[]) (hL:L.length≤1000000) {v:GV} (hv:zaZ es (elG x)=some v) (hE:Elems 5 v (L.map zbV)) (hbo:H.bo≤H.objs.length) :
    ecall T zoG [.ptr s 0,elG x] H=some (.sl 5 (L.map zbV) .imm,zbW L H):=by
  have hk:=zfJ hx hr
  obtain ⟨w,c1,c2⟩:=zfK L _ hE hL H
  rcases c2 with ⟨h,_⟩ | ⟨_,rfl⟩
  · exact absurd h hne
  have hf:zaQ (zaD L H) [.hsl H.objs.length 0 L.length 5 false]=some (.sl 5 (L.map zbV) .imm,zbW L H):=by
    have h1:(zaD L H).objs[H.objs.length]?=some (.row 96 (zbt L)):=by simp [zaD,hne]
    have h2:(zaD L H).bo=H.bo:=by simp [zaD,hne]
    simp only [zaQ,h1,h2]
    have hl:=zct L
    have ho:((List.take (L.length * 5) (List.drop 0 (zbt L))).all GV.one)=true:=by
      rw [List.drop_zero,← hl,List.take_length]; exact zhk L
    rw [if_pos ⟨hbo,by decide,by omega,ho⟩,List.drop_zero,zdx]
    simp [zaD,zbW,hne,zhl]
  have gok:=hE.ok
  have gu:=zah hE
  apply optW.eq
  rw [zad zAv rfl (by simp [zmq]),zab]
  simp only [elG,elC] at hk c1 gok gu hv ⊢
  simp [zmq,zxx,h1,h2,hk,hv,c1,hf,gok,gu,zbc,zdc]
end Go.Proofs.YtchjbidfmhmmhaaGreatDoor
namespace Go.Proofs.YtchjbidfmhmmhaaGreatDoor
open Go.Sh
set_option maxRecDepth 100000
def iA1:ICode:=.region [⟨(some 2),none,.id,[.val .nilsl],none⟩]
def iA2:ICode :=
   .seq
    (.region [
      ⟨(some 5),none,.id,[.slot 0],none⟩,
      ⟨(some 6),none,.eq1 false .ptr,[.slot 5,.val .nilptr],none⟩])
    (.cond (.slot 6)
     (.seq
      (.region [
        ⟨(some 2),none,.id,[.val .nilsl],none⟩])
      (.ret))
     (.skip))
def iA3:ICode:=.region [⟨(some 3),none,.id,[.val .nilsl],none⟩]
def iA4:List IOp:=[
        ⟨(some 7),none,.id,[.slot 0],none⟩,
        ⟨(some 8),none,.nilchk,[.slot 7],none⟩,
        ⟨(some 9),none,.faddr 0,[.slot 8],none⟩,
        ⟨(some 10),none,.load 1 false,[.slot 9],none⟩]
def iA6:List IOp:=[
       ⟨(some 4),none,.allocL [(.int .i64 0),(.str ⟨#[]⟩),(.str ⟨#[]⟩),(.str ⟨#[]⟩),(.str ⟨#[]⟩)],[],none⟩,
       ⟨none,none,.store 5,[.slot 4,.slot 15],none⟩]
def iA7:ICode:=.region [
       ⟨(some 16),none,.id,[.slot 3],none⟩,
       ⟨(some 17),none,.load 5 true,[.slot 4],(some (.loc 4))⟩,
       ⟨(some 18),none,.id,[.slot 0],none⟩,
       ⟨(some 19),none,.load 5 true,[.slot 4],(some (.loc 4))⟩,
       ⟨(some 20),none,.call zoG,[.slot 18,.slot 19],none⟩,
       ⟨(some 21),none,.build [(.int .i64 0),(.str ⟨#[]⟩),(.str ⟨#[]⟩),(.str ⟨#[]⟩),(.str ⟨#[]⟩),.nilsl] [(0,5),(5,1)],[.slot 17,.slot 20],none⟩,
       ⟨(some 22),none,.buildSl 6 1 (.agg [(.int .i64 0),(.str ⟨#[]⟩),(.str ⟨#[]⟩),(.str ⟨#[]⟩),(.str ⟨#[]⟩),.nilsl]) [0],[.slot 21],none⟩,
       ⟨(some 23),none,.appendN 115 6 96,[.slot 16,.slot 22],none⟩,
       ⟨(some 3),none,.id,[.slot 23],none⟩]
def iAe:ICode :=
     .seq
      (.region [
        ⟨(some 24),none,.id,[.slot 3],none⟩,
        ⟨(some 25),none,.call zu0,[.slot 24,.val (.func 108 [] [])],none⟩])
      (.seq
       (.region [
         ⟨(some 26),none,.freeze,[.slot 3],none⟩,
         ⟨(some 2),none,.id,[.slot 26],none⟩])
       (.ret))
def zgi (L:List Stp):List GV:=L.flatMap fun p=>enI (toI p)
def zzl (H:GH) (L:List Stp) (v:GV):Prop:=(L=[]∧v=.nilsl)∨(L≠[]∧∃ q,v=.hsl q 0 L.length 6 false∧H.objs[q]?=some (.row 115 (zgi L))∧H.bo≤q)
def zud (s idr:Nat) (v:GV):List GV:=[.ptr s 0,.junk,.junk,v,.junk,.junk,.junk,.junk,.junk,.junk,.junk,.ptr idr 0]
structure InvA (s m idr:Nat) (es:List (GV × GV)) (S:List Stp) (x:List (GV × GV)) (l:List GV) (H:GH):Prop where
  ex:∃ done xs v3,zb9 zhg x=some xs∧(done++xs).Perm S∧l=zud s idr v3∧zzl H done v3
  h1:H.objs[s]?=some (.cells 92 [.map m])
  h2:H.objs[m]?=some (.map true kLs es)
  h3:H.objs[idr]?=some .dead
  bo:H.bo=idr+1
  le:H.bo≤H.objs.length
  ls:s<idr
  lm:m<idr
theorem zqz {T:Nat→Option IFun} {ops:List IOp} {c:ICode} {s s2:St} {r:GExit} (h:erun T (.seq (.region ops) c) s=some (r,s2)):∃ s1,zbz (ecall T) ops s=some s1∧erun T c s1=some (r,s2):=by
  rw [zn7,zfl] at h
  cases hg:zbz (ecall T) ops s with
  | none=>rw [hg] at h; cases h
  | some s1=>rw [hg] at h; exact ⟨s1,rfl,h⟩
theorem zl1 (p:El × GV):(enI p).length=6:=rfl
theorem zhh (L:List Stp):(zgi L).length=L.length * 6:=by
  induction L with
  | nil=>rfl
  | cons p L ih=>simp only [zgi,List.flatMap_cons,List.length_append,List.length_cons,zl1] at ih ⊢; omega
theorem zCt {s idr:Nat} {v:GV} {l:List GV} (h0:zae l 0=.ptr s 0) (h3:zae l 3=v) (hv:v.ok=true) (h11:zae l 11=.ptr idr 0):zwF (zud s idr v) l:=by
  intro t
  match t with
  | 0=>exact .inr ⟨h0.symm,rfl⟩
  | 3=>exact .inr ⟨h3.symm,hv⟩
  | 11=>exact .inr ⟨h11.symm,rfl⟩
  | 1 | 2 | 4 | 5 | 6 | 7 | 8 | 9 | 10=>exact .inl rfl
  | n+12=>exact .inl rfl
set_option maxHeartbeats 1000000 in
theorem zuq {s m idr:Nat} {es:List (GV × GV)} {S:List Stp} (hS:zb9 zhg es=some S) (ha:zbU cfS S=true) (hlen:S.length≤100000) (p:GV × GV) (x:List (GV × GV)) (l:List GV) (H:GH) (hp:p∈es) (hi:InvA s m idr es S (p::x) l H) :
    ∃ s1 s2 l3,zbz (ecall T) iA6 ⟨⟨lput l 15 p.1,0⟩,H⟩=some s1∧erun T iA7 s1=some (.normal,s2)∧zwF l3 s2.e.s∧InvA s m idr es S x l3 s2.H:=by
  obtain ⟨⟨done,xs,v3,q1,q2,rfl,q4⟩,h1,h2,h3,hbo,hle,hls,hlm⟩:=hi
  simp only [zb9] at q1
  split at q1
  case h_2=>cases q1
  rename_i b xs' hb hxs
  injection q1 with q1; subst q1
  obtain ⟨e1,⟨tg,e2⟩,ok⟩:=zd0 hb
  have hget:=ziW hS ha p b hp hb
  rw [e2] at hget
  have hent:=zgh h1 h2 b.1 ok.fit ok.range b.2 ok.ne (by have:=ok.le; omega) hget (.sl _ _) hle
  have hdl:done.length+1≤100000:=by
    have:=q2.length_eq
    simp only [List.length_append,List.length_cons] at this
    omega
  have hk:zbW b.2 H={ H with objs:=H.objs++[.dead] }:=by simp [zbW,ok.ne]
  -- the row
  obtain ⟨v4,H4,happ,hv4,hu4,hout,g1,g2,g3,gbo,gle⟩:∃ v4 H4,zba (zbW b.2 H) 115 6 96 v3 (.sl 6 [itG b] .exact)=some (v4,H4)∧v4.ok=true∧(∀ t,zbC t v4=v4)∧zzl H4 (done++[b]) v4 ∧
      H4.objs[s]?=some (.cells 92 [.map m])∧H4.objs[m]?=some (.map true kLs es)∧H4.objs[idr]?=some .dead∧H4.bo=idr+1∧H4.bo≤H4.objs.length:=by
    have hrow:zgi (done++[b])=zgi done++enI (toI b):=by simp [zgi]
    have k1:=(zb5 b.2 H).get h1
    have k2:=(zb5 b.2 H).get h2
    have k3:=(zb5 b.2 H).get h3
    have kb:=(zb5 b.2 H).bo
    have kl:=(zb5 b.2 H).len
    rcases q4 with ⟨rfl,rfl⟩ | ⟨hne,q,rfl,hq,hbq⟩
    · refine ⟨_,_,rfl,rfl,fun _=>rfl,.inr ⟨by simp,(zbW b.2 H).objs.length,rfl, ?_, ?_⟩, ?_, ?_, ?_, ?_, ?_⟩
      · simp [GH.newObj,hrow,zgi,itG]
      · show (zbW b.2 H).bo≤_; rw [kb]; omega
      · simp only [GH.newObj]; rw [List.getElem?_append_left (List.getElem?_eq_some_iff.1 k1).1]; exact k1
      · simp only [GH.newObj]; rw [List.getElem?_append_left (List.getElem?_eq_some_iff.1 k2).1]; exact k2
      · simp only [GH.newObj]; rw [List.getElem?_append_left (List.getElem?_eq_some_iff.1 k3).1]; exact k3
      · show (zbW b.2 H).bo=_; rw [kb,hbo]
      · show (zbW b.2 H).bo≤_; rw [kb]; simp [GH.newObj]; omega
    · have hqk:=(zb5 b.2 H).get hq
      have hqlt:=(List.getElem?_eq_some_iff.1 hqk).1
      have hap:zba (zbW b.2 H) 115 6 96 (.hsl q 0 done.length 6 false) (.sl 6 [itG b] .exact)=some (.hsl (zbW b.2 H).objs.length 0 (done.length+1) 6 false,{ zbW b.2 H with objs:=(zbW b.2 H).objs.set q .dead++[.row 115 (zgi done++[itG b].flatMap GV.cells)] }):=by
        simp only [zba,zbG,if_true,Option.bind_some]
        exact zdL (news:=[itG b]) (bytes:=96) hqk (by simp [zbG]) (zhh done) (by rw [kb]; exact hbq) (by simp [zdY]; omega) (by simp [maxLen]; omega) (by simp)
      have keep:∀ {i:Nat} {o:GObj},(zbW b.2 H).objs[i]?=some o→i<H.bo→((zbW b.2 H).objs.set q .dead++[.row 115 (zgi done++[itG b].flatMap GV.cells)])[i]?=some o:=fun {i o} h hi=>by
        rw [List.getElem?_append_left (by rw [List.length_set]; exact (List.getElem?_eq_some_iff.1 h).1),List.getElem?_set_ne (by omega)]; exact h
      refine ⟨_,_,hap,rfl,fun _=>rfl,.inr ⟨by simp,(zbW b.2 H).objs.length,by simp, ?_, ?_⟩, ?_, ?_, ?_, ?_, ?_⟩
      · simp [hrow,itG]
      · show (zbW b.2 H).bo≤_; rw [kb]; omega
      · exact keep k1 (by omega)
      · exact keep k2 (by omega)
      · exact keep k3 (by omega)
      · show (zbW b.2 H).bo=_; rw [kb,hbo]
      · show (zbW b.2 H).bo≤_; rw [kb]; simp; omega
  have hok3:v3.ok=true:=by rcases q4 with ⟨_,rfl⟩ | ⟨_,q,rfl,_⟩ <;> rfl
  have hu3:∀ t,zbC t v3=v3:=fun t=>by rcases q4 with ⟨_,rfl⟩ | ⟨_,q,rfl,_⟩ <;> rfl
  have key:optW (erun T (.seq (.region iA6) iA7) ⟨⟨lput (zud s idr v3) 15 p.1,0⟩,H⟩) fun r=>r.1=.normal∧zwF (zud s idr v4) r.2.e.s∧r.2.H=H4:=by
    simp only [elG,elC] at hent e1
    simp only [itG,enI,toI,elC,List.cons_append,List.nil_append] at happ
    simp [iA6,iA7,zud,e1,hent,zaS,zaf,zam,happ,hok3,hu3,hv4,hu4]
    exact zCt (by simp) (by simp) hv4 (by simp)
  obtain ⟨⟨r,s2⟩,r1,r2,r3,r4⟩:=key
  simp only at r2 r3 r4
  subst r2
  obtain ⟨s1,t1,t2⟩:=zqz r1
  refine ⟨s1,s2,zud s idr v4,t1,t2,r3,⟨⟨done++[b],xs',v4,hxs,by rw [List.append_assoc]; exact q2,rfl,by rw [r4]; exact hout⟩, ?_, ?_, ?_, ?_, ?_,hls,hlm⟩⟩
  all_goals rw [r4]; assumption
theorem znB {α β:Type} {f:α→β} {l1:β→β→Bool} {l2:α→α→Bool} (h:∀ a b,l1 (f a) (f b)=l2 a b) (x:α):∀ l:List α,zum l1 (f x) (l.map f)=(zum l2 x l).map f
  | []=>rfl
  | y::l=>by
    simp only [List.map_cons,zum,h]
    split
    · rw [List.map_cons,znB h x l]
    · rfl
theorem zkv {α β:Type} {f:α→β} {l1:β→β→Bool} {l2:α→α→Bool} (h:∀ a b,l1 (f a) (f b)=l2 a b):∀ l:List α,za0 l1 (l.map f)=(za0 l2 l).map f
  | []=>rfl
  | x::l=>by
    have ih:=zkv h l
    simp only [za0,List.map_cons,List.foldr_cons] at ih ⊢
    rw [ih,znB h]
theorem zhr {β:Type} {c:β→β→Int} : ∀ {l:List β},zbU c l=true↔l.Pairwise fun a b=>c a b≠0
  | []=>by simp [zbU]
  | x::l=>by
    simp only [zbU,Bool.and_eq_true,List.all_eq_true,decide_eq_true_eq,List.pairwise_cons,zhr (l:=l)]
theorem zon {β:Type} {c:β→β→Int} (hs:∀ x y,c y x=- c x y) {l l':List β} (hp:l.Perm l') (h:zbU c l=true):zbU c l'=true:=by
  rw [zhr] at *
  exact (hp.pairwise_iff (fun {x y} h=>by have:=hs x y; omega)).1 h
theorem zl2:Sort.SWO (ltC cfS):=ordE_ok.swo fun p:Stp=>p.1
theorem zft {done S:List Stp} (hp:done.Perm S) (ha:zbU cfS S=true):za0 (ltC cfS) done=za0 (ltC cfS) S :=
  zgI ((za3 _).trans hp) (zcH zl2 _) zl2 (fun a b h1 h2 e1 e2=>zjW (fun x y=>ordE_ok.swap x.1 y.1) S ha a b h1 h2 (by
    have s:=ordE_ok.swap a.1 b.1
    have h1':¬ zdo a.1 b.1<0:=fun h=>by
      have e1:decide (zdo a.1 b.1<0)=false:=e1
      rw [decide_eq_true h] at e1; cases e1
    have h2':¬ zdo b.1 a.1<0:=fun h=>by
      have e2:decide (zdo b.1 a.1<0)=false:=e2
      rw [decide_eq_true h] at e2; cases e2
    show zdo a.1 b.1=0
    omega))
theorem zoo (n:Nat) (L:List Ent):zgJ (n+2) (.sl 5 (L.map zbV) .imm)=true:=by
  simp only [zgJ,Bool.and_true,List.all_eq_true,List.mem_map]
  rintro x ⟨e,_,rfl⟩ c hc
  simp only [zcV,GV.cells,List.mem_cons,List.mem_nil_iff,or_false] at hc
  rcases hc with rfl | rfl | rfl | rfl | rfl <;> rfl
theorem zxd (p:Stp):deI (enI (toI p))=some (toI p):=by
  simp only [enI,toI,elC,List.cons_append,List.nil_append,deI,zbn]
  rw [if_pos (by simp only [Bool.and_eq_true]; exact ⟨⟨rfl,rfl⟩,zoo 8 _⟩)]
theorem zqA (p:El × GV) (h:p.2.one=true):∀ c∈enI p,c.one=true:=by
  intro c hc
  simp only [enI,elC,List.cons_append,List.nil_append,List.mem_cons,List.mem_nil_iff,or_false] at hc
  rcases hc with rfl | rfl | rfl | rfl | rfl | rfl <;> first | rfl | exact h
theorem zop {H:GH} {q:Nat} {L:List Stp} (hne:L≠[]) (hle:L.length≤1000000) (hq:H.objs[q]?=some (.row 115 (zgi L))) (hbq:H.bo≤q) (ha:zbU cfS L=true) :
    ecall T zu0 [.hsl q 0 L.length 6 false,.func 108 [] []] H=some (.tup [],{ H with objs:=H.objs.set q (.row 115 (zgi (za0 (ltC cfS) L))) }):=by
  refine zl4 zAw (by simp) ?_ ⟨rfl,rfl⟩
  have hpos:0<L.length:=List.length_pos_iff.2 hne
  have hone:(zgi L).all GV.one=true:=by
    rw [List.all_eq_true]
    intro c hc
    obtain ⟨p,_,hp⟩:=List.mem_flatMap.1 hc
    exact zqA (toI p) rfl c hp
  have hrow:znq 6 L.length (zgi L)=L.map fun p=>enI (toI p):=zgb (en:=fun p=>enI (toI p)) (fun _=>rfl) L
  have hdec:zun deI (znq 6 L.length (zgi L))=some (L.map toI):=by
    rw [hrow]
    have:=zhp (de:=deI) (en:=enI) (L.map toI) (fun b hb=>by obtain ⟨p,_,rfl⟩:=List.mem_map.1 hb; exact zxd p)
    rwa [List.map_map] at this
  have hch:zbU cfI (L.map toI)=true:=by
    rw [zhr] at *
    rw [List.pairwise_map]
    exact ha
  have hs:(za0 (ltC cfI) (L.map toI)).flatMap enI=zgi (za0 (ltC cfS) L):=by
    rw [zkv (f:=toI) (l1:=ltC cfI) (l2:=ltC cfS) (fun a b=>rfl) L,List.flatMap_map]; rfl
  simp only [zjT,zg4,hq]
  rw [if_pos ⟨trivial,trivial,hbq,hpos,by decide,hle,zhh L,hone⟩,hdec]
  simp only [Option.bind_some,hch,if_true,hs]
theorem zgO:∀ L:List Stp,za2 6 L.length (zgi L)=L.map itG
  | []=>rfl
  | p::L=>by
    have h:zgi (p::L)=enI (toI p)++zgi L:=by simp [zgi]
    have e1:(enI (toI p)++zgi L).take 6=enI (toI p):=by rw [← zl1 (toI p)]; simp
    have e2:(enI (toI p)++zgi L).drop 6=zgi L:=by rw [← zl1 (toI p)]; simp
    rw [h]
    simp only [List.length_cons,za2,List.map_cons,e1,e2,zgO L]
    rfl
theorem zcT (a b n:Nat):∀ (xs:List GV),(∀ x∈xs,zaJ a b n x=some x)→xs.mapM (zaJ a b n)=some xs
  | [],_=>rfl
  | x::xs,h=>by
    rw [List.mapM_cons,h x (by simp),zcT a b n xs fun y hy=>h y (by simp [hy])]; rfl
theorem zl3 (a b n:Nat) (L:List Stp):zaJ a b (n+5) (.sl 6 (L.map itG) .imm)=some (.sl 6 (L.map itG) .imm):=by
  show Option.map (fun xs=>GV.sl 6 xs .imm) ((L.map itG).mapM (zaJ a b (n+4)))=_
  rw [zcT]
  · rfl
  · intro x hx
    obtain ⟨p,_,rfl⟩:=List.mem_map.1 hx
    show Option.map GV.agg ((enI (toI p)).mapM (zaJ a b (n+3)))=_
    rw [zcT]
    · rfl
    · intro c hc
      simp only [enI,toI,elC,List.cons_append,List.nil_append,List.mem_cons,List.mem_nil_iff,or_false] at hc
      rcases hc with rfl | rfl | rfl | rfl | rfl | rfl <;> try rfl
      show Option.map (fun xs=>GV.sl 5 xs .imm) ((p.2.map zbV).mapM (zaJ a b (n+2)))=_
      rw [zcT]
      · rfl
      · intro x hx
        obtain ⟨e,_,rfl⟩:=List.mem_map.1 hx
        rfl
theorem zxe {s m idr:Nat} {es:List (GV × GV)} {S:List Stp} (ha:zbU cfS S=true) (hlen:S.length≤100000) (nO nT:Nat) (l:List GV) (H:GH) (hi:InvA s m idr es S [] l H) :
    ∃ s6 v0,erun T iAe ⟨⟨l,0⟩,H⟩=some (.ret,s6)∧zaz s6 [.slot 2]=some v0∧zaJ nO nT 100 v0=some (if S.isEmpty then .nilsl else .sl 6 ((za0 (ltC cfS) S).map itG) .imm):=by
  obtain ⟨⟨done,xs,v3,q1,q2,rfl,q4⟩,h1,h2,h3,hbo,hle,hls,hlm⟩:=hi
  simp only [zb9,Option.some.injEq] at q1
  subst q1
  rw [List.append_nil] at q2
  have hnil:ecall T zu0 [.nilsl,.func 108 [] []] H=some (.tup [],H):=zl4 zAw (by simp) rfl ⟨rfl,rfl⟩
  rcases q4 with ⟨rfl,rfl⟩ | ⟨hne,q,rfl,hq,hbq⟩
  · have hS:S=[]:=q2.symm.eq_nil
    subst hS
    have key:optW (erun T iAe ⟨⟨zud s idr .nilsl,0⟩,H⟩) fun r=>r.1=.ret∧zaz r.2 [.slot 2]=some .nilsl:=by
      simp [iAe,zud,hnil,zbc,zdc]
    obtain ⟨⟨r,s6⟩,r1,r2,r3⟩:=key
    simp only at r2
    subst r2
    exact ⟨s6,_,r1,r3,rfl⟩
  · have hS:S≠[]:=fun h=>hne (by rw [h] at q2; exact q2.eq_nil)
    have had:=zon (fun x y=>ordE_ok.swap x.1 y.1) q2.symm ha
    have hdl:=q2.length_eq
    have hso:=zop hne (by omega) hq hbq had
    rw [zft q2 ha] at hso
    have hpl:(za0 (ltC cfS) S).length=done.length:=by rw [(za3 S).length_eq,hdl]
    have hqlt:=(List.getElem?_eq_some_iff.1 hq).1
    obtain ⟨L,hL⟩:∃ L,L=za0 (ltC cfS) S:=⟨_,rfl⟩
    rw [← hL] at hso hpl ⊢
    rw [← hpl] at hso
    have hone:(zgi L).all GV.one=true:=by
      rw [List.all_eq_true]
      intro c hc
      obtain ⟨p,_,hp⟩:=List.mem_flatMap.1 hc
      exact zqA (toI p) rfl c hp
    have hpos:0<L.length:=by rw [hpl]; exact List.length_pos_iff.2 hne
    have hfr:zaQ { H with objs:=H.objs.set q (.row 115 (zgi L)) } [.hsl q 0 L.length 6 false]=some (.sl 6 (L.map itG) .imm,{ H with objs:=H.objs.set q .dead }):=by
      have hg:(H.objs.set q (.row 115 (zgi L)))[q]?=some (.row 115 (zgi L)):=List.getElem?_set_self hqlt
      have ho:((List.take (L.length * 6) (List.drop 0 (zgi L))).all GV.one)=true:=by
        rw [List.drop_zero,← zhh,List.take_length]; exact hone
      simp only [zaQ,hg]
      rw [if_pos ⟨hbq,by decide,by rw [zhh]; omega,ho⟩,List.drop_zero,zgO,List.set_set]
    have key:optW (erun T iAe ⟨⟨zud s idr (.hsl q 0 done.length 6 false),0⟩,H⟩) fun r=>r.1=.ret∧zaz r.2 [.slot 2]=some (.sl 6 (L.map itG) .imm):=by
      rw [← hpl]
      simp [iAe,zud,hso,zbc,hfr]
    obtain ⟨⟨r,s6⟩,r1,r2,r3⟩:=key
    simp only at r2
    subst r2
    refine ⟨s6,_,r1,r3, ?_⟩
    rw [if_neg (by simpa using hS)]
    exact zl3 nO nT 95 L
end Go.Proofs.YtchjbidfmhmmhaaGreatDoor
namespace Go.Proofs.YtchjbidfmhmmhaaGreatDoor
open Go.Sh
set_option maxRecDepth 100000
abbrev hpA:List Nat:=[1048580,16777239,8388634]
theorem zzm:MildOk T hpA:=by
  intro f hf F hF
  have:f=14680087∨f=6291482:=by
    simp [hpA] at hf
    omega
  rcases this with rfl | rfl
  · have:T 14680087=none:=by kernel_rfl
    rw [this] at hF; cases hF
  · have:T 6291482=none:=by kernel_rfl
    rw [this] at hF; cases hF
theorem zur (args:List GV) (H:GH) (v:GV) (h:zuh ⟨8,[],.trap,0,15,zom⟩ args H=some v):args.length≤27∧Nonempty (RangeRun T iA1 iA2 iA3 iA4 iA6 iA7 iAe 11 12 13 14 15 10 [.slot 2] args H v):=by
  simp only [zuh,Option.map_eq_some_iff] at h
  obtain ⟨⟨v',H'⟩,h,rfl⟩:=h
  unfold zom at h
  split at h
  case h_2=>cases h
  rename_i s
  split at h
  case h_2=>cases h
  rename_i m h1
  split at h
  case h_2=>cases h
  rename_i ls es h2
  split at h
  case isFalse=>cases h
  rename_i hc
  obtain ⟨rfl,hel⟩:=hc
  simp only [Option.bind_eq_some_iff] at h
  obtain ⟨S,hS,h⟩:=h
  split at h
  case isFalse=>cases h
  rename_i ha
  simp only [Option.some.injEq,Prod.mk.injEq] at h
  obtain ⟨rfl,rfl⟩:=h
  have hs:s<H.objs.length:=(List.getElem?_eq_some_iff.1 h1).1
  have hm:m<H.objs.length:=(List.getElem?_eq_some_iff.1 h2).1
  have hSl:S.length≤100000:=by
    have:∀ {es:List (GV × GV)} {S:List Stp},zb9 zhg es=some S→S.length=es.length:=fun {es}=>by
      induction es with
      | nil=>intro S h; simp only [zb9,Option.some.injEq] at h; subst h; rfl
      | cons p es ih =>
        intro S h
        simp only [zb9] at h
        split at h
        · rename_i a b _ hb
          injection h with h; subst h
          simp [ih hb]
        · cases h
    rw [this hS]; exact hel
  refine ⟨by simp,⟨?_⟩⟩
  have hmlt:m<H.objs.length:=hm
  exact
  { s1:=⟨⟨lput [.ptr s 0] 2 .nilsl,0⟩,{ H with bo:=H.objs.length,bt:=H.toks.length }⟩
    s2:=⟨⟨lput (lput (lput [.ptr s 0] 2 .nilsl) 5 (.ptr s 0)) 6 (.bool false),0⟩,{ H with bo:=H.objs.length,bt:=H.toks.length }⟩
    s3:=⟨⟨lput (lput (lput (lput [.ptr s 0] 2 .nilsl) 5 (.ptr s 0)) 6 (.bool false)) 3 .nilsl,0⟩,{ H with bo:=H.objs.length,bt:=H.toks.length }⟩
    s4:=⟨⟨lput (lput (lput (lput (lput (lput (lput (lput [.ptr s 0] 2 .nilsl) 5 (.ptr s 0)) 6 (.bool false)) 3 .nilsl) 7 (.ptr s 0)) 8 (.ptr s 0)) 9 (.ptr s 0)) 10 (.map m),0⟩,{ H with bo:=H.objs.length,bt:=H.toks.length }⟩
    e1:=by
      apply optW.eq
      simp [iA1]
    e2:=by
      apply optW.eq
      simp [iA2]
    e3:=by
      apply optW.eq
      simp [iA3]
    e4:=by
      have key:optW (erun T (.region iA4) ⟨⟨lput (lput (lput (lput [.ptr s 0] 2 .nilsl) 5 (.ptr s 0)) 6 (.bool false)) 3 .nilsl,0⟩,{ H with bo:=H.objs.length,bt:=H.toks.length }⟩) fun r=>r=(.normal,⟨⟨lput (lput (lput (lput (lput (lput (lput (lput [.ptr s 0] 2 .nilsl) 5 (.ptr s 0)) 6 (.bool false)) 3 .nilsl) 7 (.ptr s 0)) 8 (.ptr s 0)) 9 (.ptr s 0)) 10 (.map m),0⟩,{ H with bo:=H.objs.length,bt:=H.toks.length }⟩):=by
        simp [iA4,h1]
      have h:=optW.eq key
      rw [zfl,Option.map_eq_some_iff] at h
      obtain ⟨s',q1,q2⟩:=h
      injection q2 with _ q2
      rw [q1,q2]
    id:=m
    ag:=true
    ls:=kLs
    es:=es
    hmt:=by simp
    hob:=h2
    hid:=hm
    hbl:=Nat.le_refl _
    l4:=[.ptr s 0,.junk,.junk,.nilsl]
    hw4:=by
      intro t
      match t with
      | 0=>exact .inr ⟨by simp,rfl⟩
      | 3=>exact .inr ⟨by simp,rfl⟩
      | 1 | 2=>exact .inl rfl
      | n+4=>exact .inl rfl
    hj:=⟨rfl,rfl,rfl,rfl⟩
    Inv:=InvA s m H.objs.length es S
    hperm:=fun x y l H' hp hi=>by
      obtain ⟨⟨done,xs,v3,q1,q2,q3,q4⟩,r1,r2,r3,r4,r5,r6,r7⟩:=hi
      obtain ⟨ys,p1,p2⟩:=zqy hp q1
      exact ⟨⟨done,ys,v3,p1,(p2.symm.append_left done).trans q2,q3,q4⟩,r1,r2,r3,r4,r5,r6,r7⟩
    hjunk:=fun x l H' hi=>by
      obtain ⟨⟨done,xs,v3,q1,q2,rfl,q4⟩,r1,r2,r3,r4,r5,r6,r7⟩:=hi
      exact ⟨rfl,rfl,rfl,rfl,r3⟩
    hinit:=by
      have g:∀ {i:Nat} {o:GObj},H.objs[i]?=some o→(H.objs++[GObj.dead])[i]?=some o:=fun {i o} h=>by
        rw [List.getElem?_append_left (List.getElem?_eq_some_iff.1 h).1]; exact h
      refine ⟨⟨[],S,.nilsl,hS,.refl _,rfl,.inl ⟨rfl,rfl⟩⟩,g h1,g h2, ?_,rfl, ?_,hs,hm⟩
      · show (H.objs++[GObj.dead])[H.objs.length]?=_
        simp
      · show H.objs.length+1≤(H.objs++[GObj.dead]).length
        simp
    hbody:=fun p x l H' hp hi=>zuq hS ha hSl p x l H' hp hi
    hend:=fun l H' hi _ _=>zxe ha hSl _ _ l H' hi }
set_option maxHeartbeats 1000000 in
theorem zd1:zdK Tryz.prog 60 ⟨8,[],.trap,0,15,zom⟩ :=
  ztO (by kernel_rfl) (by kernel_rfl) T_ok zzm rfl Tryz.func60 (by kernel_rfl) (b0:=0) (b1:=1) (it:=11) (nx:=12) (okT:=13) (en:=14) (kv:=15) (mt:=10) (res:=[.slot 2]) (i1:=iA1) (i2:=iA2) (i3:=iA3) (ie:=iAe) (ios4:=iA4) (ios6:=iA6) (ic7:=iA7) (ty:=90) (tk:=32) (tv:=93) (pre4:=[_,_,_,_])
    rfl (by kernel_rfl) (by kernel_rfl) (by kernel_rfl) (by kernel_rfl) (by kernel_rfl) rfl rfl rfl rfl Tryz.underlying90 rfl rfl rfl rfl rfl rfl rfl rfl rfl rfl rfl rfl rfl rfl (by decide) (by decide) (by kernel_rfl) (by kernel_rfl) (by kernel_rfl) zur
end Go.Proofs.YtchjbidfmhmmhaaGreatDoor
namespace Go.Proofs.YtchjbidfmhmmhaaGreatDoor
open Go.Sh
set_option maxRecDepth 100000
def zzn:IFun:=⟨8,[],.trap,0,15,zom⟩
def zCu:List (Nat × List Nat × IFun):=rows++[(60,[],zzn)]
def T2:Nat→Option IFun:=zdO zCu
theorem zCv:zcp Tryz.prog T2:=zgL (by kernel_rfl) (RowsOk.append T_rows (.lib zd1 (by decide) .nil))
theorem zqB (f:Nat) (F:IFun) (h:T f=some F):T2 f=some F:=zlP rows _ f F h
theorem up {f:Nat} {args:List GV} {H:GH} {r:GV × GH} (h:ecall T f args H=some r):ecall T2 f args H=some r:=zwH zqB h
theorem zzo:T2 60=some zzn:=by kernel_rfl
end Go.Proofs.YtchjbidfmhmmhaaGreatDoor
