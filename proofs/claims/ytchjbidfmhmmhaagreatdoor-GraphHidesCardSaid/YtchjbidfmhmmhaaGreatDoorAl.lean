/- Own work: the zaG machine and what it shows, part Al. -/
import Derived.Test.YtchjbidfmhmmhaaGreatDoorDo
import Derived.Test.YtchjbidfmhmmhaaGreatDoorEn
import Derived.Test.YtchjbidfmhmmhaaGreatDoorShH
set_option linter.all false
namespace Go.Proofs.YtchjbidfmhmmhaaGreatDoor
open Go.Sh
set_option maxRecDepth 100000
abbrev Stp:=El × List Ent
def toI (p:Stp):El × GV:=(p.1,.sl 5 (p.2.map zbX) .imm)
def itG (p:Stp):GV:=.agg (enI (toI p))
def cfS (p q:Stp):Int:=zdu p.1 q.1
def zca {α β:Type} (f:α→Option β):List α→Option (List β)
 | []=>some []
 | x::l=>match f x,zca f l with
  | some a,some b=>some (a::b)
  | _,_=>none
def zkA:GV→Option Ent
 | .agg [.int .i64 r,.int .i64 c,.int .i64 k,.int .i64 n,.str t]=>some ⟨r,c,k,n,t.data.toList⟩
 | _=>none
def zut:GV→Option El
 | .agg [.int .i64 k,.str a,.str b,.str c,.str d]=>some ⟨k,a.data.toList,b.data.toList,c.data.toList,d.data.toList⟩
 | _=>none
def elB (x:El):Bool:=decide (x.a.length≤1048576)&&(decide (x.b.length≤1048576)&&(decide (x.c.length≤1048576)&&(decide (x.d.length≤1048576)&&(decide (-9223372036854775808≤x.k)&&decide (x.k≤9223372036854775807)))))
def zhb:GV × GV→Option Stp
 | (k,.sl 5 xs _)=>match zut k,zca zkA xs with
  | some x,some L=>if elB x&&(!L.isEmpty&&decide (L.length≤999999)) then some (x,L) else none
  | _,_=>none
 | _=>none
def zot:List GV→GH→Option (GV × GH)
 | [.ptr s 0],H=>match H.objs[s]? with
  | some (.cells 92 [.map m])=>match H.objs[m]? with
   | some (.map true ls es)=>if ls=kLs∧es.length≤100000 then (zca zhb es).bind fun S=>if zbW cfS S then some (if S.isEmpty then .nilsl else .sl 6 ((za3 (ltC cfS) S).map itG) .imm,H) else none else none
   | _=>none
  | _=>none
 | _,_=>none
theorem zqA {g:GV} {e:Ent} (h:zkA g=some e):g=zbX e:=by
 unfold zkA at h
 split at h
 ·injection h with h; subst h; simp [zcY,zgF]
 ·cases h
theorem zuu {g:GV} {e:El} (h:zut g=some e):g=elG e:=by
 unfold zut at h
 split at h
 ·injection h with h; subst h; simp [elC,zgF]
 ·cases h
theorem zqB {α β:Type} {f:α→Option β} {e:β→α} (hf:∀ a b,f a=some b→a=e b):∀ {l:List α} {r:List β},zca f l=some r→l=r.map e
 | [],r,h=>by simp only [zca,Option.some.injEq] at h; subst h; rfl
 | x::l,r,h=>by
  simp only [zca] at h
  split at h
  ·rename_i a b ha hb
   injection h with h; subst h
   rw [hf _ _ ha,zqB hf hb]; rfl
  ·cases h
theorem zqC {α β:Type} {f:α→Option β} {l l':List α} (h:l.Perm l'):∀ {r:List β},zca f l=some r→∃ r',zca f l'=some r'∧r.Perm r':=by
 induction h with
 | nil=>intro r h; exact ⟨r,h,.refl _⟩
 | cons x _ ih =>
  intro r h
  simp only [zca] at h ⊢
  split at h
  ·rename_i a b ha hb
   injection h with h; subst h
   obtain ⟨r',h1,h2⟩:=ih hb
   exact ⟨a::r',by rw [ha,h1],h2.cons a⟩
  ·cases h
 | swap x y l =>
  intro r h
  simp only [zca] at h ⊢
  cases hx:f x <;> cases hy:f y <;> cases hl:zca f l <;> simp [hx,hy,hl] at h ⊢
  subst h
  exact .swap _ _ _
 | trans _ _ ih1 ih2 =>
  intro r h
  obtain ⟨r1,h1,h2⟩:=ih1 h
  obtain ⟨r2,h3,h4⟩:=ih2 h1
  exact ⟨r2,h3,h2.trans h4⟩
theorem znC {α β:Type} {f:α→Option β} : ∀ {l:List α} {r:List β},zca f l=some r→∀ {x:α} {b:β},x∈l→f x=some b→b∈r
 | [],_,_,_,_,hx,_=>by cases hx
 | y::l,r,h,x,b,hx,hb=>by
  simp only [zca] at h
  split at h
  ·rename_i a c ha hc
   injection h with h; subst h
   rcases List.mem_cons.1 hx with rfl | hx
   ·rw [hb] at ha; injection ha with ha; rw [ha]; exact List.mem_cons_self
   ·exact List.mem_cons_of_mem _ (znC hc hx hb)
  ·cases h
theorem zxn {x:El} (h:elB x=true):ElFit x∧ElRange x:=by
 simp only [elB,Bool.and_eq_true,decide_eq_true_eq] at h
 exact ⟨⟨h.1,h.2.1,h.2.2.1,h.2.2.2.1⟩,⟨h.2.2.2.2.1,h.2.2.2.2.2⟩⟩
structure StpOk (p:Stp):Prop where
 fit:ElFit p.1
 range:ElRange p.1
 ne:p.2≠[]
 le:p.2.length≤999999
theorem zd2 {p:GV × GV} {b:Stp} (h:zhb p=some b):p.1=elG b.1∧(∃ t,p.2=.sl 5 (b.2.map zbX) t)∧StpOk b:=by
 unfold zhb at h
 split at h
 ·rename_i k xs t
  split at h
  ·rename_i x L hx hL
   split at h
   ·rename_i hc
    injection h with h; subst h
    simp only [Bool.and_eq_true,decide_eq_true_eq,Bool.not_eq_true',List.isEmpty_eq_false_iff] at hc
    obtain ⟨q1,q2⟩:=zxn hc.1
    exact ⟨zuu hx,⟨t,by rw [zqB (fun a b=>zqA) hL]⟩,⟨q1,q2,hc.2.1,hc.2.2⟩⟩
   ·cases h
  ·cases h
 ·cases h
theorem ziX:∀ {es:List (GV × GV)} {S:List Stp},zca zhb es=some S→zbW cfS S=true→∀ p b,p∈es→zhb p=some b→zaX es (elG b.1)=some p.2
 | [],_,_,_,p,b,hp,_=>by cases hp
 | q::es,S,h,ha,p,b,hp,hb=>by
  simp only [zca] at h
  split at h
  ·rename_i bq S' hq hS
   injection h with h; subst h
   simp only [zbW,Bool.and_eq_true,List.all_eq_true,decide_eq_true_eq] at ha
   obtain ⟨e1,_,o1⟩:=zd2 hq
   obtain ⟨e2,_,o2⟩:=zd2 hb
   have hk1:=zfE o1.fit o1.range
   have hk2:=zfE o2.fit o2.range
   unfold zaX
   rw [List.find?_cons]
   cases hk:zbZ q.1 (elG b.1) with
   | true =>
    rw [e1] at hk
    have:=zd5 ((zaL hk1 hk2).1 hk)
    rcases List.mem_cons.1 hp with rfl | hp
    ·rfl
    ·exfalso
     have hbS:b∈S':=znC hS hp hb
     exact ha.1 b hbS (by show zdu bq.1 b.1=0; rw [this]; exact ordE_ok.self _)
   | false =>
    rcases List.mem_cons.1 hp with rfl | hp
    ·rw [e2] at hk
     have:zbZ (elG b.1) (elG b.1)=true:=zuI hk2
     rw [this] at hk; cases hk
    ·exact ziX hS ha.2 p b hp hb
  ·cases h
theorem zf9 {H:GH} {s m:Nat} {es:List (GV × GV)} (h1:H.objs[s]?=some (.cells 92 [.map m])) (h2:H.objs[m]?=some (.map true kLs es)) (x:El) (hx:ElFit x) (hr:ElRange x) (L:List Ent) (hne:L≠[]) (hL:L.length≤1000000) {v:GV} (hv:zaX es (elG x)=some v) (hE:Elems 5 v (L.map zbX)) (hbo:H.bo≤H.objs.length) :
 ecall T zoI [.ptr s 0,elG x] H=some (.sl 5 (L.map zbX) .imm,zbY L H):=by
 have hk:=zfE hx hr
 obtain ⟨w,c1,c2⟩:=zfF L _ hE hL H
 rcases c2 with ⟨h,_⟩ | ⟨_,rfl⟩
 ·exact absurd h hne
 have hf:zaR (zaE L H) [.hsl H.objs.length 0 L.length 5 false]=some (.sl 5 (L.map zbX) .imm,zbY L H):=by
  have h1:(zaE L H).objs[H.objs.length]?=some (.row 96 (zbu L)):=by simp [zaE,hne]
  have h2:(zaE L H).bo=H.bo:=by simp [zaE,hne]
  simp only [zaR,h1,h2]
  have hl:=zcv L
  have ho:((List.take (L.length * 5) (List.drop 0 (zbu L))).all GV.one)=true:=by
   rw [List.drop_zero,← hl,List.take_length]; exact zhh L
  rw [if_pos ⟨hbo,by decide,by omega,ho⟩,List.drop_zero,zdC]
  simp [zaE,zbY,hne,zhi]
 have gok:=hE.ok
 have gu:=zaf hE
 apply optW.eq
 rw [zad zAp rfl (by simp [zmq]),zab]
 simp only [elG,elC] at hk c1 gok gu hv ⊢
 simp [zmq,zxI,h1,h2,hk,hv,c1,hf,gok,gu,zbc,zdc]
def iA1:ICode:=.region [⟨(some 2),none,.id,[.val .nilsl],none⟩]
def iA2:ICode :=
 .seq
  (.region [
    ⟨(some 5),none,.id,[.slot 0],none⟩,
    ⟨(some 6),none,.eq1 false .ptr,[.slot 5,.val .nilptr],none⟩])
  (.cond (.slot 6)
   (.seq
    (.region [
      ⟨(some 2),none,.id,[.val .nilsl],none⟩])
    (.ret))
   (.skip))
def iA3:ICode:=.region [⟨(some 3),none,.id,[.val .nilsl],none⟩]
def iA4:List IOp:=[
 ⟨(some 7),none,.id,[.slot 0],none⟩,
 ⟨(some 8),none,.nilchk,[.slot 7],none⟩,
 ⟨(some 9),none,.faddr 0,[.slot 8],none⟩,
 ⟨(some 10),none,.load 1 false,[.slot 9],none⟩]
def iA6:List IOp:=[
 ⟨(some 4),none,.allocL [(.int .i64 0),(.str ⟨#[]⟩),(.str ⟨#[]⟩),(.str ⟨#[]⟩),(.str ⟨#[]⟩)],[],none⟩,
 ⟨none,none,.store 5,[.slot 4,.slot 15],none⟩]
def iA7:ICode:=.region [
 ⟨(some 16),none,.id,[.slot 3],none⟩,
 ⟨(some 17),none,.load 5 true,[.slot 4],(some (.loc 4))⟩,
 ⟨(some 18),none,.id,[.slot 0],none⟩,
 ⟨(some 19),none,.load 5 true,[.slot 4],(some (.loc 4))⟩,
 ⟨(some 20),none,.call zoI,[.slot 18,.slot 19],none⟩,
 ⟨(some 21),none,.build [(.int .i64 0),(.str ⟨#[]⟩),(.str ⟨#[]⟩),(.str ⟨#[]⟩),(.str ⟨#[]⟩),.nilsl] [(0,5),(5,1)],[.slot 17,.slot 20],none⟩,
 ⟨(some 22),none,.buildSl 6 1 (.agg [(.int .i64 0),(.str ⟨#[]⟩),(.str ⟨#[]⟩),(.str ⟨#[]⟩),(.str ⟨#[]⟩),.nilsl]) [0],[.slot 21],none⟩,
 ⟨(some 23),none,.appendN 115 6 96,[.slot 16,.slot 22],none⟩,
 ⟨(some 3),none,.id,[.slot 23],none⟩]
def iAe:ICode :=
 .seq
  (.region [
    ⟨(some 24),none,.id,[.slot 3],none⟩,
    ⟨(some 25),none,.call zu3,[.slot 24,.val (.func 108 [] [])],none⟩])
  (.seq
   (.region [
     ⟨(some 26),none,.freeze,[.slot 3],none⟩,
     ⟨(some 2),none,.id,[.slot 26],none⟩])
   (.ret))
def zga (L:List Stp):List GV:=L.flatMap fun p=>enI (toI p)
def zzt (H:GH) (L:List Stp) (v:GV):Prop:=(L=[]∧v=.nilsl)∨(L≠[]∧∃ q,v=.hsl q 0 L.length 6 false∧H.objs[q]?=some (.row 115 (zga L))∧H.bo≤q)
def zuh (s idr:Nat) (v:GV):List GV:=[.ptr s 0,.junk,.junk,v,.junk,.junk,.junk,.junk,.junk,.junk,.junk,.ptr idr 0]
structure InvA (s m idr:Nat) (es:List (GV × GV)) (S:List Stp) (x:List (GV × GV)) (l:List GV) (H:GH):Prop where
 ex:∃ done xs v3,zca zhb x=some xs∧(done++xs).Perm S∧l=zuh s idr v3∧zzt H done v3
 h1:H.objs[s]?=some (.cells 92 [.map m])
 h2:H.objs[m]?=some (.map true kLs es)
 h3:H.objs[idr]?=some .dead
 bo:H.bo=idr+1
 le:H.bo≤H.objs.length
 ls:s<idr
 lm:m<idr
theorem zqD {T:Nat→Option IFun} {ops:List IOp} {c:ICode} {s s2:St} {r:GExit} (h:erun T (.seq (.region ops) c) s=some (r,s2)):∃ s1,zbC (ecall T) ops s=some s1∧erun T c s1=some (r,s2):=by
 rw [zob,zfi] at h
 cases hg:zbC (ecall T) ops s with
 | none=>rw [hg] at h; cases h
 | some s1=>rw [hg] at h; exact ⟨s1,rfl,h⟩
theorem zl4 (p:El × GV):(enI p).length=6:=rfl
theorem zhc (L:List Stp):(zga L).length=L.length * 6:=by
 induction L with
 | nil=>rfl
 | cons p L ih=>simp only [zga,List.flatMap_cons,List.length_append,List.length_cons,zl4] at ih ⊢; omega
theorem zCj {s idr:Nat} {v:GV} {l:List GV} (h0:zag l 0=.ptr s 0) (h3:zag l 3=v) (hv:v.ok=true) (h11:zag l 11=.ptr idr 0):zwN (zuh s idr v) l:=by
 intro t
 match t with
 | 0=>exact .inr ⟨h0.symm,rfl⟩
 | 3=>exact .inr ⟨h3.symm,hv⟩
 | 11=>exact .inr ⟨h11.symm,rfl⟩
 | 1 | 2 | 4 | 5 | 6 | 7 | 8 | 9 | 10=>exact .inl rfl
 | n+12=>exact .inl rfl
set_option maxHeartbeats 1000000 in
theorem zuv {s m idr:Nat} {es:List (GV × GV)} {S:List Stp} (hS:zca zhb es=some S) (ha:zbW cfS S=true) (hlen:S.length≤100000) (p:GV × GV) (x:List (GV × GV)) (l:List GV) (H:GH) (hp:p∈es) (hi:InvA s m idr es S (p::x) l H) :
 ∃ s1 s2 l3,zbC (ecall T) iA6 ⟨⟨lput l 15 p.1,0⟩,H⟩=some s1∧erun T iA7 s1=some (.normal,s2)∧zwN l3 s2.e.s∧InvA s m idr es S x l3 s2.H:=by
 obtain ⟨⟨done,xs,v3,q1,q2,rfl,q4⟩,h1,h2,h3,hbo,hle,hls,hlm⟩:=hi
 simp only [zca] at q1
 split at q1
 case h_2=>cases q1
 rename_i b xs' hb hxs
 injection q1 with q1; subst q1
 obtain ⟨e1,⟨tg,e2⟩,ok⟩:=zd2 hb
 have hget:=ziX hS ha p b hp hb
 rw [e2] at hget
 have hent:=zf9 h1 h2 b.1 ok.fit ok.range b.2 ok.ne (by have:=ok.le; omega) hget (.sl _ _) hle
 have hdl:done.length+1≤100000:=by
  have:=q2.length_eq
  simp only [List.length_append,List.length_cons] at this
  omega
 have hk:zbY b.2 H={ H with objs:=H.objs++[.dead] }:=by simp [zbY,ok.ne]
 -- the row
 obtain ⟨v4,H4,happ,hv4,hu4,hout,g1,g2,g3,gbo,gle⟩:∃ v4 H4,za9 (zbY b.2 H) 115 6 96 v3 (.sl 6 [itG b] .exact)=some (v4,H4)∧v4.ok=true∧(∀ t,zbx t v4=v4)∧zzt H4 (done++[b]) v4 ∧
  H4.objs[s]?=some (.cells 92 [.map m])∧H4.objs[m]?=some (.map true kLs es)∧H4.objs[idr]?=some .dead∧H4.bo=idr+1∧H4.bo≤H4.objs.length:=by
  have hrow:zga (done++[b])=zga done++enI (toI b):=by simp [zga]
  have k1:=(zb6 b.2 H).get h1
  have k2:=(zb6 b.2 H).get h2
  have k3:=(zb6 b.2 H).get h3
  have kb:=(zb6 b.2 H).bo
  have kl:=(zb6 b.2 H).len
  rcases q4 with ⟨rfl,rfl⟩ | ⟨hne,q,rfl,hq,hbq⟩
  ·refine ⟨_,_,rfl,rfl,fun _=>rfl,.inr ⟨by simp,(zbY b.2 H).objs.length,rfl, ?_, ?_⟩, ?_, ?_, ?_, ?_, ?_⟩
   ·simp [GH.newObj,hrow,zga,itG]
   ·show (zbY b.2 H).bo≤_; rw [kb]; omega
   ·simp only [GH.newObj]; rw [List.getElem?_append_left (List.getElem?_eq_some_iff.1 k1).1]; exact k1
   ·simp only [GH.newObj]; rw [List.getElem?_append_left (List.getElem?_eq_some_iff.1 k2).1]; exact k2
   ·simp only [GH.newObj]; rw [List.getElem?_append_left (List.getElem?_eq_some_iff.1 k3).1]; exact k3
   ·show (zbY b.2 H).bo=_; rw [kb,hbo]
   ·show (zbY b.2 H).bo≤_; rw [kb]; simp [GH.newObj]; omega
  ·have hqk:=(zb6 b.2 H).get hq
   have hqlt:=(List.getElem?_eq_some_iff.1 hqk).1
   have hap:za9 (zbY b.2 H) 115 6 96 (.hsl q 0 done.length 6 false) (.sl 6 [itG b] .exact)=some (.hsl (zbY b.2 H).objs.length 0 (done.length+1) 6 false,{ zbY b.2 H with objs:=(zbY b.2 H).objs.set q .dead++[.row 115 (zga done++[itG b].flatMap GV.cells)] }):=by
    simp only [za9,zbK,if_true,Option.bind_some]
    exact zdN (news:=[itG b]) (bytes:=96) hqk (by simp [zbK]) (zhc done) (by rw [kb]; exact hbq) (by simp [room]; omega) (by simp [maxLen]; omega) (by simp)
   have keep:∀ {i:Nat} {o:GObj},(zbY b.2 H).objs[i]?=some o→i<H.bo→((zbY b.2 H).objs.set q .dead++[.row 115 (zga done++[itG b].flatMap GV.cells)])[i]?=some o:=fun {i o} h hi=>by
    rw [List.getElem?_append_left (by rw [List.length_set]; exact (List.getElem?_eq_some_iff.1 h).1),List.getElem?_set_ne (by omega)]; exact h
   refine ⟨_,_,hap,rfl,fun _=>rfl,.inr ⟨by simp,(zbY b.2 H).objs.length,by simp, ?_, ?_⟩, ?_, ?_, ?_, ?_, ?_⟩
   ·simp [hrow,itG]
   ·show (zbY b.2 H).bo≤_; rw [kb]; omega
   ·exact keep k1 (by omega)
   ·exact keep k2 (by omega)
   ·exact keep k3 (by omega)
   ·show (zbY b.2 H).bo=_; rw [kb,hbo]
   ·show (zbY b.2 H).bo≤_; rw [kb]; simp; omega
 have hok3:v3.ok=true:=by rcases q4 with ⟨_,rfl⟩ | ⟨_,q,rfl,_⟩ <;> rfl
 have hu3:∀ t,zbx t v3=v3:=fun t=>by rcases q4 with ⟨_,rfl⟩ | ⟨_,q,rfl,_⟩ <;> rfl
 have key:optW (erun T (.seq (.region iA6) iA7) ⟨⟨lput (zuh s idr v3) 15 p.1,0⟩,H⟩) fun r=>r.1=.normal∧zwN (zuh s idr v4) r.2.e.s∧r.2.H=H4:=by
  simp only [elG,elC] at hent e1
  simp only [itG,enI,toI,elC,List.cons_append,List.nil_append] at happ
  simp [iA6,iA7,zuh,e1,hent,za6,zae,zaj,happ,hok3,hu3,hv4,hu4]
  exact zCj (by simp) (by simp) hv4 (by simp)
 obtain ⟨⟨r,s2⟩,r1,r2,r3,r4⟩:=key
 simp only at r2 r3 r4
 subst r2
 obtain ⟨s1,t1,t2⟩:=zqD r1
 refine ⟨s1,s2,zuh s idr v4,t1,t2,r3,⟨⟨done++[b],xs',v4,hxs,by rw [List.append_assoc]; exact q2,rfl,by rw [r4]; exact hout⟩, ?_, ?_, ?_, ?_, ?_,hls,hlm⟩⟩
 all_goals rw [r4]; assumption
theorem znD {α β:Type} {f:α→β} {l1:β→β→Bool} {l2:α→α→Bool} (h:∀ a b,l1 (f a) (f b)=l2 a b) (x:α):∀ l:List α,zuq l1 (f x) (l.map f)=(zuq l2 x l).map f
 | []=>rfl
 | y::l=>by
  simp only [List.map_cons,zuq,h]
  split
  ·rw [List.map_cons,znD h x l]
  ·rfl
theorem zkB {α β:Type} {f:α→β} {l1:β→β→Bool} {l2:α→α→Bool} (h:∀ a b,l1 (f a) (f b)=l2 a b):∀ l:List α,za3 l1 (l.map f)=(za3 l2 l).map f
 | []=>rfl
 | x::l=>by
  have ih:=zkB h l
  simp only [za3,List.map_cons,List.foldr_cons] at ih ⊢
  rw [ih,znD h]
theorem zhq {β:Type} {c:β→β→Int} : ∀ {l:List β},zbW c l=true↔l.Pairwise fun a b=>c a b≠0
 | []=>by simp [zbW]
 | x::l=>by
  simp only [zbW,Bool.and_eq_true,List.all_eq_true,decide_eq_true_eq,List.pairwise_cons,zhq (l:=l)]
theorem zou {β:Type} {c:β→β→Int} (hs:∀ x y,c y x=- c x y) {l l':List β} (hp:l.Perm l') (h:zbW c l=true):zbW c l'=true:=by
 rw [zhq] at *
 exact (hp.pairwise_iff (fun {x y} h=>by have:=hs x y; omega)).1 h
theorem zl5:Sort.SWO (ltC cfS):=ordE_ok.swo fun p:Stp=>p.1
theorem zfr {done S:List Stp} (hp:done.Perm S) (ha:zbW cfS S=true):za3 (ltC cfS) done=za3 (ltC cfS) S :=
 zgD ((zaW _).trans hp) (zcK zl5 _) zl5 (fun a b h1 h2 e1 e2=>zj6 (fun x y=>ordE_ok.swap x.1 y.1) S ha a b h1 h2 (by
  have s:=ordE_ok.swap a.1 b.1
  have h1':¬ zdu a.1 b.1<0:=fun h=>by
   have e1:decide (zdu a.1 b.1<0)=false:=e1
   rw [decide_eq_true h] at e1; cases e1
  have h2':¬ zdu b.1 a.1<0:=fun h=>by
   have e2:decide (zdu b.1 a.1<0)=false:=e2
   rw [decide_eq_true h] at e2; cases e2
  show zdu a.1 b.1=0
  omega))
theorem zov (n:Nat) (L:List Ent):zgE (n+2) (.sl 5 (L.map zbX) .imm)=true:=by
 simp only [zgE,Bool.and_true,List.all_eq_true,List.mem_map]
 rintro x ⟨e,_,rfl⟩ c hc
 simp only [zcY,GV.cells,List.mem_cons,List.mem_nil_iff,or_false] at hc
 rcases hc with rfl | rfl | rfl | rfl | rfl <;> rfl
theorem zxo (p:Stp):deI (enI (toI p))=some (toI p):=by
 simp only [enI,toI,elC,List.cons_append,List.nil_append,deI,zbE]
 rw [if_pos (by simp only [Bool.and_eq_true]; exact ⟨⟨rfl,rfl⟩,zov 8 _⟩)]
theorem zqE (p:El × GV) (h:p.2.one=true):∀ c∈enI p,c.one=true:=by
 intro c hc
 simp only [enI,elC,List.cons_append,List.nil_append,List.mem_cons,List.mem_nil_iff,or_false] at hc
 rcases hc with rfl | rfl | rfl | rfl | rfl | rfl <;> first | rfl | exact h
theorem zow {H:GH} {q:Nat} {L:List Stp} (hne:L≠[]) (hle:L.length≤1000000) (hq:H.objs[q]?=some (.row 115 (zga L))) (hbq:H.bo≤q) (ha:zbW cfS L=true) :
 ecall T zu3 [.hsl q 0 L.length 6 false,.func 108 [] []] H=some (.tup [],{ H with objs:=H.objs.set q (.row 115 (zga (za3 (ltC cfS) L))) }):=by
 refine zl7 zAq (by simp) ?_ ⟨rfl,rfl⟩
 have hpos:0<L.length:=List.length_pos_iff.2 hne
 have hone:(zga L).all GV.one=true:=by
  rw [List.all_eq_true]
  intro c hc
  obtain ⟨p,_,hp⟩:=List.mem_flatMap.1 hc
  exact zqE (toI p) rfl c hp
 have hrow:znq 6 L.length (zga L)=L.map fun p=>enI (toI p):=zf4 (en:=fun p=>enI (toI p)) (fun _=>rfl) L
 have hdec:zur deI (znq 6 L.length (zga L))=some (L.map toI):=by
  rw [hrow]
  have:=zhn (de:=deI) (en:=enI) (L.map toI) (fun b hb=>by obtain ⟨p,_,rfl⟩:=List.mem_map.1 hb; exact zxo p)
  rwa [List.map_map] at this
 have hch:zbW cfI (L.map toI)=true:=by
  rw [zhq] at *
  rw [List.pairwise_map]
  exact ha
 have hs:(za3 (ltC cfI) (L.map toI)).flatMap enI=zga (za3 (ltC cfS) L):=by
  rw [zkB (f:=toI) (l1:=ltC cfI) (l2:=ltC cfS) (fun a b=>rfl) L,List.flatMap_map]; rfl
 simp only [zj3,zgW,hq]
 rw [if_pos ⟨trivial,trivial,hbq,hpos,by decide,hle,zhc L,hone⟩,hdec]
 simp only [Option.bind_some,hch,if_true,hs]
theorem zgK:∀ L:List Stp,za4 6 L.length (zga L)=L.map itG
 | []=>rfl
 | p::L=>by
  have h:zga (p::L)=enI (toI p)++zga L:=by simp [zga]
  have e1:(enI (toI p)++zga L).take 6=enI (toI p):=by rw [← zl4 (toI p)]; simp
  have e2:(enI (toI p)++zga L).drop 6=zga L:=by rw [← zl4 (toI p)]; simp
  rw [h]
  simp only [List.length_cons,za4,List.map_cons,e1,e2,zgK L]
  rfl
theorem zcW (a b n:Nat):∀ (xs:List GV),(∀ x∈xs,zaI a b n x=some x)→xs.mapM (zaI a b n)=some xs
 | [],_=>rfl
 | x::xs,h=>by
  rw [List.mapM_cons,h x (by simp),zcW a b n xs fun y hy=>h y (by simp [hy])]; rfl
theorem zl6 (a b n:Nat) (L:List Stp):zaI a b (n+5) (.sl 6 (L.map itG) .imm)=some (.sl 6 (L.map itG) .imm):=by
 show Option.map (fun xs=>GV.sl 6 xs .imm) ((L.map itG).mapM (zaI a b (n+4)))=_
 rw [zcW]
 ·rfl
 ·intro x hx
  obtain ⟨p,_,rfl⟩:=List.mem_map.1 hx
  show Option.map GV.agg ((enI (toI p)).mapM (zaI a b (n+3)))=_
  rw [zcW]
  ·rfl
  ·intro c hc
   simp only [enI,toI,elC,List.cons_append,List.nil_append,List.mem_cons,List.mem_nil_iff,or_false] at hc
   rcases hc with rfl | rfl | rfl | rfl | rfl | rfl <;> try rfl
   show Option.map (fun xs=>GV.sl 5 xs .imm) ((p.2.map zbX).mapM (zaI a b (n+2)))=_
   rw [zcW]
   ·rfl
   ·intro x hx
    obtain ⟨e,_,rfl⟩:=List.mem_map.1 hx
    rfl
theorem zxp {s m idr:Nat} {es:List (GV × GV)} {S:List Stp} (ha:zbW cfS S=true) (hlen:S.length≤100000) (nO nT:Nat) (l:List GV) (H:GH) (hi:InvA s m idr es S [] l H) :
 ∃ s6 v0,erun T iAe ⟨⟨l,0⟩,H⟩=some (.ret,s6)∧zaz s6 [.slot 2]=some v0∧zaI nO nT 100 v0=some (if S.isEmpty then .nilsl else .sl 6 ((za3 (ltC cfS) S).map itG) .imm):=by
 obtain ⟨⟨done,xs,v3,q1,q2,rfl,q4⟩,h1,h2,h3,hbo,hle,hls,hlm⟩:=hi
 simp only [zca,Option.some.injEq] at q1
 subst q1
 rw [List.append_nil] at q2
 have hnil:ecall T zu3 [.nilsl,.func 108 [] []] H=some (.tup [],H):=zl7 zAq (by simp) rfl ⟨rfl,rfl⟩
 rcases q4 with ⟨rfl,rfl⟩ | ⟨hne,q,rfl,hq,hbq⟩
 ·have hS:S=[]:=q2.symm.eq_nil
  subst hS
  have key:optW (erun T iAe ⟨⟨zuh s idr .nilsl,0⟩,H⟩) fun r=>r.1=.ret∧zaz r.2 [.slot 2]=some .nilsl:=by
   simp [iAe,zuh,hnil,zbc,zdc]
  obtain ⟨⟨r,s6⟩,r1,r2,r3⟩:=key
  simp only at r2
  subst r2
  exact ⟨s6,_,r1,r3,rfl⟩
 ·have hS:S≠[]:=fun h=>hne (by rw [h] at q2; exact q2.eq_nil)
  have had:=zou (fun x y=>ordE_ok.swap x.1 y.1) q2.symm ha
  have hdl:=q2.length_eq
  have hso:=zow hne (by omega) hq hbq had
  rw [zfr q2 ha] at hso
  have hpl:(za3 (ltC cfS) S).length=done.length:=by rw [(zaW S).length_eq,hdl]
  have hqlt:=(List.getElem?_eq_some_iff.1 hq).1
  obtain ⟨L,hL⟩:∃ L,L=za3 (ltC cfS) S:=⟨_,rfl⟩
  rw [← hL] at hso hpl ⊢
  rw [← hpl] at hso
  have hone:(zga L).all GV.one=true:=by
   rw [List.all_eq_true]
   intro c hc
   obtain ⟨p,_,hp⟩:=List.mem_flatMap.1 hc
   exact zqE (toI p) rfl c hp
  have hpos:0<L.length:=by rw [hpl]; exact List.length_pos_iff.2 hne
  have hfr:zaR { H with objs:=H.objs.set q (.row 115 (zga L)) } [.hsl q 0 L.length 6 false]=some (.sl 6 (L.map itG) .imm,{ H with objs:=H.objs.set q .dead }):=by
   have hg:(H.objs.set q (.row 115 (zga L)))[q]?=some (.row 115 (zga L)):=List.getElem?_set_self hqlt
   have ho:((List.take (L.length * 6) (List.drop 0 (zga L))).all GV.one)=true:=by
    rw [List.drop_zero,← zhc,List.take_length]; exact hone
   simp only [zaR,hg]
   rw [if_pos ⟨hbq,by decide,by rw [zhc]; omega,ho⟩,List.drop_zero,zgK,List.set_set]
  have key:optW (erun T iAe ⟨⟨zuh s idr (.hsl q 0 done.length 6 false),0⟩,H⟩) fun r=>r.1=.ret∧zaz r.2 [.slot 2]=some (.sl 6 (L.map itG) .imm):=by
   rw [← hpl]
   simp [iAe,zuh,hso,zbc,hfr]
  obtain ⟨⟨r,s6⟩,r1,r2,r3⟩:=key
  simp only at r2
  subst r2
  refine ⟨s6,_,r1,r3, ?_⟩
  rw [if_neg (by simpa using hS)]
  exact zl6 nO nT 95 L
abbrev hpA:List Nat:=[1048580,16777239,8388634]
theorem zzu:MildOk T hpA:=by
 intro f hf F hF
 have:f=14680087∨f=6291482:=by
  simp [hpA] at hf
  omega
 rcases this with rfl | rfl
 ·have:T 14680087=none:=by kernel_rfl
  rw [this] at hF; cases hF
 ·have:T 6291482=none:=by kernel_rfl
  rw [this] at hF; cases hF
theorem zuw (args:List GV) (H:GH) (v:GV) (h:zmI ⟨8,[],.trap,0,15,zot⟩ args H=some v):args.length≤27∧Nonempty (RangeRun T iA1 iA2 iA3 iA4 iA6 iA7 iAe 11 12 13 14 15 10 [.slot 2] args H v):=by
 simp only [zmI,Option.map_eq_some_iff] at h
 obtain ⟨⟨v',H'⟩,h,rfl⟩:=h
 unfold zot at h
 split at h
 case h_2=>cases h
 rename_i s
 split at h
 case h_2=>cases h
 rename_i m h1
 split at h
 case h_2=>cases h
 rename_i ls es h2
 split at h
 case isFalse=>cases h
 rename_i hc
 obtain ⟨rfl,hel⟩:=hc
 simp only [Option.bind_eq_some_iff] at h
 obtain ⟨S,hS,h⟩:=h
 split at h
 case isFalse=>cases h
 rename_i ha
 simp only [Option.some.injEq,Prod.mk.injEq] at h
 obtain ⟨rfl,rfl⟩:=h
 have hs:s<H.objs.length:=(List.getElem?_eq_some_iff.1 h1).1
 have hm:m<H.objs.length:=(List.getElem?_eq_some_iff.1 h2).1
 have hSl:S.length≤100000:=by
  have:∀ {es:List (GV × GV)} {S:List Stp},zca zhb es=some S→S.length=es.length:=fun {es}=>by
   induction es with
   | nil=>intro S h; simp only [zca,Option.some.injEq] at h; subst h; rfl
   | cons p es ih =>
    intro S h
    simp only [zca] at h
    split at h
    ·rename_i a b _ hb
     injection h with h; subst h
     simp [ih hb]
    ·cases h
  rw [this hS]; exact hel
 refine ⟨by simp,⟨?_⟩⟩
 have hmlt:m<H.objs.length:=hm
 exact
 { s1:=⟨⟨lput [.ptr s 0] 2 .nilsl,0⟩,{ H with bo:=H.objs.length,bt:=H.toks.length }⟩
   s2:=⟨⟨lput (lput (lput [.ptr s 0] 2 .nilsl) 5 (.ptr s 0)) 6 (.bool false),0⟩,{ H with bo:=H.objs.length,bt:=H.toks.length }⟩
   s3:=⟨⟨lput (lput (lput (lput [.ptr s 0] 2 .nilsl) 5 (.ptr s 0)) 6 (.bool false)) 3 .nilsl,0⟩,{ H with bo:=H.objs.length,bt:=H.toks.length }⟩
   s4:=⟨⟨lput (lput (lput (lput (lput (lput (lput (lput [.ptr s 0] 2 .nilsl) 5 (.ptr s 0)) 6 (.bool false)) 3 .nilsl) 7 (.ptr s 0)) 8 (.ptr s 0)) 9 (.ptr s 0)) 10 (.map m),0⟩,{ H with bo:=H.objs.length,bt:=H.toks.length }⟩
   e1:=by
    apply optW.eq
    simp [iA1]
   e2:=by
    apply optW.eq
    simp [iA2]
   e3:=by
    apply optW.eq
    simp [iA3]
   e4:=by
    have key:optW (erun T (.region iA4) ⟨⟨lput (lput (lput (lput [.ptr s 0] 2 .nilsl) 5 (.ptr s 0)) 6 (.bool false)) 3 .nilsl,0⟩,{ H with bo:=H.objs.length,bt:=H.toks.length }⟩) fun r=>r=(.normal,⟨⟨lput (lput (lput (lput (lput (lput (lput (lput [.ptr s 0] 2 .nilsl) 5 (.ptr s 0)) 6 (.bool false)) 3 .nilsl) 7 (.ptr s 0)) 8 (.ptr s 0)) 9 (.ptr s 0)) 10 (.map m),0⟩,{ H with bo:=H.objs.length,bt:=H.toks.length }⟩):=by
     simp [iA4,h1]
    have h:=optW.eq key
    rw [zfi,Option.map_eq_some_iff] at h
    obtain ⟨s',q1,q2⟩:=h
    injection q2 with _ q2
    rw [q1,q2]
   id:=m
   ag:=true
   ls:=kLs
   es:=es
   hmt:=by simp
   hob:=h2
   hid:=hm
   hbl:=Nat.le_refl _
   l4:=[.ptr s 0,.junk,.junk,.nilsl]
   hw4:=by
    intro t
    match t with
    | 0=>exact .inr ⟨by simp,rfl⟩
    | 3=>exact .inr ⟨by simp,rfl⟩
    | 1 | 2=>exact .inl rfl
    | n+4=>exact .inl rfl
   hj:=⟨rfl,rfl,rfl,rfl⟩
   Inv:=InvA s m H.objs.length es S
   hperm:=fun x y l H' hp hi=>by
    obtain ⟨⟨done,xs,v3,q1,q2,q3,q4⟩,r1,r2,r3,r4,r5,r6,r7⟩:=hi
    obtain ⟨ys,p1,p2⟩:=zqC hp q1
    exact ⟨⟨done,ys,v3,p1,(p2.symm.append_left done).trans q2,q3,q4⟩,r1,r2,r3,r4,r5,r6,r7⟩
   hjunk:=fun x l H' hi=>by
    obtain ⟨⟨done,xs,v3,q1,q2,rfl,q4⟩,r1,r2,r3,r4,r5,r6,r7⟩:=hi
    exact ⟨rfl,rfl,rfl,rfl,r3⟩
   hinit:=by
    have g:∀ {i:Nat} {o:GObj},H.objs[i]?=some o→(H.objs++[GObj.dead])[i]?=some o:=fun {i o} h=>by
     rw [List.getElem?_append_left (List.getElem?_eq_some_iff.1 h).1]; exact h
    refine ⟨⟨[],S,.nilsl,hS,.refl _,rfl,.inl ⟨rfl,rfl⟩⟩,g h1,g h2, ?_,rfl, ?_,hs,hm⟩
    ·show (H.objs++[GObj.dead])[H.objs.length]?=_
     simp
    ·show H.objs.length+1≤(H.objs++[GObj.dead]).length
     simp
   hbody:=fun p x l H' hp hi=>zuv hS ha hSl p x l H' hp hi
   hend:=fun l H' hi _ _=>zxp ha hSl _ _ l H' hi }
set_option maxHeartbeats 1000000 in
theorem zd3:zcO Tryz.prog 60 ⟨8,[],.trap,0,15,zot⟩ :=
 ztQ (by kernel_rfl) (by kernel_rfl) T_ok zzu rfl Tryz.func60 (by kernel_rfl) (b0:=0) (b1:=1) (it:=11) (nx:=12) (okT:=13) (en:=14) (kv:=15) (mt:=10) (res:=[.slot 2]) (i1:=iA1) (i2:=iA2) (i3:=iA3) (ie:=iAe) (ios4:=iA4) (ios6:=iA6) (ic7:=iA7) (ty:=90) (tk:=32) (tv:=93) (pre4:=[_,_,_,_])
  rfl (by kernel_rfl) (by kernel_rfl) (by kernel_rfl) (by kernel_rfl) (by kernel_rfl) rfl rfl rfl rfl Tryz.underlying90 rfl rfl rfl rfl rfl rfl rfl rfl rfl rfl rfl rfl rfl rfl (by decide) (by decide) (by kernel_rfl) (by kernel_rfl) (by kernel_rfl) zuw
def zzv:IFun:=⟨8,[],.trap,0,15,zot⟩
def zCk:List (Nat × List Nat × IFun):=rows++[(60,[],zzv)]
def T2:Nat→Option IFun:=zdQ zCk
theorem zCl:zcq Tryz.prog T2:=zgG (by kernel_rfl) (RowsOk.append T_rows (.lib zd3 (by decide) .nil))
theorem zqF (f:Nat) (F:IFun) (h:T f=some F):T2 f=some F:=zlV rows _ f F h
theorem up {f:Nat} {args:List GV} {H:GH} {r:GV × GH} (h:ecall T f args H=some r):ecall T2 f args H=some r:=zwP zqF h
theorem zzw:T2 60=some zzv:=by kernel_rfl
end Go.Proofs.YtchjbidfmhmmhaaGreatDoor
