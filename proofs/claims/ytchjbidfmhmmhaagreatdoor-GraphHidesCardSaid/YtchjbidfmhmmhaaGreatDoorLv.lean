/- Own work: the zaG machine and what it shows, part Lv. -/
import Derived.Test.YtchjbidfmhmmhaaGreatDoorCo
import Derived.Test.YtchjbidfmhmmhaaGreatDoorEl
set_option linter.all false
namespace Go.Proofs.YtchjbidfmhmmhaaGreatDoor
open Go.Sh
set_option maxHeartbeats 4000000
set_option maxRecDepth 100000
def zk8 (v:List Int) (r c:Int):Bool:=decide (c≤zcu v r)
def zeX (x:El) (y a:Evt):Bool:=(decide (y.x=x)&&!decide (y.op=1))&&(!decide (y.r=a.r∧y.c=a.c)&&zk8 y.past a.r a.c)
def zgm (R:List Evt) (x:El) (a:Evt):Bool:=(decide (a.x=x)&&decide (a.op=1∨a.op=3))&&!R.any fun y=>zeX x y a
def zgn (R:List Evt) (x:El):List Evt:=R.filter (zgm R x)
theorem zdB:∀ {l:List Evt} {v:List Int},v.length=16→zdq v l→(∀ k:Int,0≤k→zcu v k≤zcu (zap v l) k)∧∀ y∈l,evB y=true∧zcu v y.r<y.c∧y.c≤zcu (zap v l) y.r∧∀ k:Int,0≤k→k<16→zcu y.past k≤zcu (zap v l) k
 | [],v,_,_=>⟨fun k _=>Int.le_refl _,fun y h=>by cases h⟩
 | e::l,v,hv,hc=>by
  obtain ⟨hf,hc⟩:=hc
  obtain ⟨hb,ha,hp⟩:=zhp hf
  obtain ⟨r0,r1,c0,c1⟩:=zee hb
  have hat:=zt1 hv (c:=e.c) r0 r1
  obtain ⟨h1,h2⟩:=zdB (v:=znt v e) (by simp [znt,hv]) hc
  have up1:∀ k:Int,0≤k→zcu v k≤zcu (znt v e) k:=fun k hk=>by
   unfold znt; rw [hat k hk]; split
   ·rename_i e1; rw [e1]; omega
   ·exact Int.le_refl _
  refine ⟨fun k hk=>Int.le_trans (up1 k hk) (h1 k hk),fun y hy=>?_⟩
  rcases List.mem_cons.1 hy with rfl | hy
  ·refine ⟨hb,by omega, ?_,fun k hk hk2=>?_⟩
   ·have:=h1 y.r r0
    unfold znt at this
    rw [hat y.r r0,if_pos rfl] at this
    exact this
   ·have h3:=hp k.toNat (by omega)
    rw [Int.toNat_of_nonneg hk] at h3
    exact Int.le_trans h3 (Int.le_trans (up1 k hk) (h1 k hk))
  ·obtain ⟨q1,q2,q3,q4⟩:=h2 y hy
   have:=up1 y.r (zee q1).1
   exact ⟨q1,by omega,q3,q4⟩
theorem zsk (L:List Ent) (x:Ent):(zjD L x).Perm (L++[x]):=by
 unfold zjD
 refine List.perm_middle.trans ?_
 refine (List.Perm.cons x (List.filter_append_perm (fun y=>decide (zdv y x<0)) L)).trans ?_
 exact (List.perm_append_singleton x L).symm
theorem ziO {α β:Type} (f:α→β) (p:β→Bool) (l:List α):(l.map f).filter p=(l.filter fun a=>p (f a)).map f:=by
 rw [List.filter_map]; rfl
theorem zhG {l:List Evt} {e:Evt} (hl:zdq zero16 l) (hf:zgp (zap zero16 l) e=true) (x:El) :
 zgn (l++[e]) x=(if x=e.x then ((if e.op=1 then zgn l x else (zgn l x).filter fun a=>!zbO e.past a.r a.c)++if e.op=1∨e.op=3 then [e] else []) else zgn l x):=by
 obtain ⟨_,hu⟩:=zdB (v:=zero16) rfl hl
 obtain ⟨hb,ha,hp⟩:=zhp hf
 obtain ⟨r0,r1,c0,c1⟩:=zee hb
 have hB:∀ a,zgm (l++[e]) x a=(zgm l x a&&!zeX x e a):=fun a=>by
  unfold zgm
  rw [List.any_append]
  simp only [List.any_cons,List.any_nil,Bool.or_false,Bool.not_or,Bool.and_assoc]
 unfold zgn
 rw [List.filter_append]
 by_cases hx:x=e.x
 ·rw [if_pos hx]
  have he : [e].filter (zgm (l++[e]) x)=if e.op=1∨e.op=3 then [e] else []:=by
   have hn:zeX x e e=false:=by simp [zeX]
   have hany:(l.any fun y=>zeX x y e)=false:=by
    rw [List.any_eq_false]
    intro y hy
    obtain ⟨_,_,_,q4⟩:=hu y hy
    have:=q4 e.r r0 r1
    have hk:zk8 y.past e.r e.c=false:=by unfold zk8; exact decide_eq_false (by omega)
    simp [zeX,hk]
   have:zgm (l++[e]) x e=decide (e.op=1∨e.op=3):=by
    rw [hB,hn]; unfold zgm; rw [hany,hx]; simp
   rw [List.filter_cons,this]
   by_cases ho:e.op=1∨e.op=3
   ·rw [if_pos ho,if_pos (decide_eq_true ho)]; rfl
   ·rw [if_neg ho,if_neg (by simpa using ho)]; rfl
  rw [he]
  congr 1
  by_cases ho:e.op=1
  ·rw [if_pos ho]
   apply List.filter_congr
   intro a _
   rw [hB]; simp [zeX,ho]
  ·rw [if_neg ho,List.filter_filter]
   apply List.filter_congr
   intro a hm
   obtain ⟨q1,_,q3,_⟩:=hu a hm
   have hd:=zee q1
   have hne:¬ (e.r=a.r∧e.c=a.c):=fun h=>by
    rw [← h.1,ha] at q3; omega
   have hk:zbO e.past a.r a.c=zk8 e.past a.r a.c:=by
    have:zeW a.r a.c=true:=by simp only [zeW,decide_eq_true_eq]; exact hd
    unfold zbO zk8; rw [this,Bool.true_and]
   rw [hB,hk,Bool.and_comm]
   unfold zeX
   rw [hx,decide_eq_false ho,decide_eq_false hne]
   simp
 ·rw [if_neg hx]
  have h0:∀ a,zeX x e a=false:=fun a=>by
   unfold zeX; rw [decide_eq_false (fun h=>hx h.symm)]; rfl
  have he : [e].filter (zgm (l++[e]) x)=[]:=by
   have:zgm (l++[e]) x e=false:=by
    rw [hB]; unfold zgm; rw [decide_eq_false (fun h=>hx h.symm)]; rfl
   rw [List.filter_cons,this]; rfl
  rw [he,List.append_nil]
  apply List.filter_congr
  intro a _
  rw [hB,h0]; simp
theorem zsl {R:List Evt} (h:Row R) (x:El):∀ i≤R.length,(zb2 (zby (R.take i)) x).Perm ((zgn (R.take i) x).map zgc)
 | 0,_=>by rw [List.take_zero]; exact .refl _
 | i+1,hi=>by
  have ih:=zsl h x i (by omega)
  obtain ⟨e,he⟩:∃ e,R[i]?=some e:=⟨R[i],List.getElem?_eq_getElem (by omega)⟩
  obtain ⟨hg,hf,hd⟩:=h.at_ he
  have ht:R.take (i+1)=R.take i++[e]:=by rw [List.take_add_one,he]; rfl
  have hc:zdq zero16 (R.take i):=by
   have:=h.causl
   rw [← List.take_append_drop i R] at this
   exact (causl_app.1 this).1
  rw [hd,ht,zhG hc hf]
  unfold doF
  rw [zoq]
  by_cases hx:x=e.x
  ·rw [if_pos hx,if_pos hx,← hx]
   have hcut:(ziZ e (zb2 (zby (R.take i)) x)).Perm ((if e.op=1 then zgn (R.take i) x else (zgn (R.take i) x).filter fun a=>!zbO e.past a.r a.c).map zgc):=by
    unfold ziZ
    by_cases ho:e.op=1
    ·rw [if_pos ho,if_pos ho]; exact ih
    ·rw [if_neg ho,if_neg ho]
     have:=ih.filter fun y=>!zbO e.past y.r y.c
     rw [ziO] at this
     exact this
   unfold doL
   by_cases ho:e.op=1∨e.op=3
   ·rw [if_pos ho,if_pos ho,List.map_append]
    exact (zsk _ _).trans (hcut.append_right _)
   ·rw [if_neg ho,if_neg ho,List.append_nil]
    exact hcut
  ·rw [if_neg hx,if_neg hx]; exact ih
theorem zj7 {R:List Evt} (h:Row R) (x:El):(zb2 (zby R) x).Perm ((zgn R x).map zgc):=by
 have:=zsl h x R.length (Nat.le_refl _)
 rwa [List.take_length] at this
theorem zDq (a b:List UInt8):(mkB a == mkB b)=decide (a=b):=by
 by_cases h:a=b
 ·subst h; rw [zxq]; simp
 ·rw [decide_eq_false h,Bool.eq_false_iff]
  intro e
  have:mkB a=mkB b:=by
   rcases ha:mkB a with ⟨x⟩
   rcases hb:mkB b with ⟨y⟩
   rw [ha,hb] at e
   have e:(x == y)=true:=e
   rw [eq_of_beq e]
  have:=congrArg (fun b:ByteArray=>b.data.toList) this
  simp only [zbE] at this
  exact h this
theorem zjd (k n:Int) (t:List UInt8) (k' n':Int) (t':List UInt8):zaT [.int .i64,.int .i64,.str] [.int .i64 k,.int .i64 n,.str (mkB t)] [.int .i64 k',.int .i64 n',.str (mkB t')]=some (decide (k=k'∧n=n'∧t=t')):=by
 by_cases h1:k=k' <;> by_cases h2:n=n' <;> by_cases h3:t=t' <;> simp [zaT,zba,zDq,h1,h2,h3]
structure EvOk (e:Evt):Prop where
 fit:EvFit e
 ok:evB e=true
def ixP {α:Type} (p:α→Bool) (out:List α):Nat:=(out.takeWhile p).length
def zk9 {α:Type} (p:α→Bool) (e:α) (out:List α):List α:=out.take (ixP p out)++e::out.drop (ixP p out)
theorem zAE {α:Type} {p:α→Bool} : ∀ {out:List α} {i:Nat},i≤out.length→(∀ k,k<i→∀ y,out[k]?=some y→p y=true)→(∀ y,out[i]?=some y→p y=false)→ixP p out=i
 | [],i,h,_,_=>by simp [ixP] at h ⊢; omega
 | y::out,0,_,_,h2=>by
  have:=h2 y rfl
  simp [ixP,List.takeWhile_cons,this]
 | y::out,i+1,h,h1,h2=>by
  have h0:=h1 0 (by omega) y rfl
  have ih:=zAE (p:=p) (out:=out) (i:=i) (by simpa using h) (fun k hk z hz=>h1 (k+1) (by omega) z (by simpa using hz)) (fun z hz=>h2 z (by simpa using hz))
  simp only [ixP] at ih ⊢
  rw [List.takeWhile_cons,h0]
  simp [ih]
theorem zDr {α:Type} (p:α→Bool) (out:List α):ixP p out≤out.length:=(List.takeWhile_sublist p).length_le
theorem insP_mem {α:Type} {p:α→Bool} {e:α} {out:List α} {y:α} : y∈zk9 p e out↔y=e∨y∈out:=by
 unfold zk9
 rw [List.mem_append,List.mem_cons]
 conv=>rhs; rw [← List.take_append_drop (ixP p out) out,List.mem_append]
 constructor
 ·rintro (h | h | h)
  ·exact .inr (.inl h)
  ·exact .inl h
  ·exact .inr (.inr h)
 ·rintro (h | h | h)
  ·exact .inr (.inl h)
  ·exact .inl h
  ·exact .inr (.inr h)
theorem znU {α:Type} (p:α→Bool) (e:α) (out:List α):(zk9 p e out).length=out.length+1:=by
 have:=zDr p out
 unfold zk9
 rw [List.length_append,List.length_cons,List.length_take,List.length_drop]
 omega
theorem zgo {x:El} (h:ElBig x) (hr:ElRange x):zaA true kLs (elG x)=true:=by
 obtain ⟨h1,h2⟩:=hr
 have:=h.a; have:=h.b; have:=h.c; have:=h.d
 simp [zaA,elC,zat,maxLen,IntKind.min,IntKind.max,IntKind.signed,IntKind.bits]
 omega
theorem znV {x:El} (hk:zaA true kLs (elG x)=true):∀ {es:List (GV × GV)} {S:List Stp},zca zhb es=some S→Has es x (zb2 S x)
 | [],S,h=>by simp only [zca,Option.some.injEq] at h; subst h; exact .inl ⟨rfl,rfl⟩
 | p::es,S,h=>by
  simp only [zca] at h
  split at h
  ·rename_i a b ha hb
   injection h with h; subst h
   have ih:=znV hk hb
   have hke:zbZ p.1 (elG x)=decide (a.1=x):=by
    obtain ⟨e1,_,o1⟩:=zd2 ha
    rw [e1,Bool.eq_iff_iff,zaL (zfE o1.fit o1.range) hk,decide_eq_true_eq]
    exact ⟨zd5,fun h=>by rw [h]⟩
   unfold Has zaX zb2 at ih ⊢
   rw [List.find?_cons,List.find?_cons,hke]
   by_cases e:a.1=x
   ·simp only [e,decide_true]
    obtain ⟨_,⟨t,ht⟩,_⟩:=zd2 ha
    exact .inr ⟨p.2,rfl,by rw [ht]; exact .sl _ _⟩
   ·simp only [e,decide_false]; exact ih
  ·cases h
def zvB (H:GH) (s m:Nat) (S:List Stp):Prop:=∃ es,H.objs[s]?=some (.cells 92 [.map m])∧H.objs[m]?=some (.map true kLs es)∧zca zhb es=some S
theorem Sto.rd {H:GH} {s m:Nat} {S:List Stp} (h:Sto H s m S):zvB H s m S:=by
 obtain ⟨⟨es,⟨h1,h2,_⟩,hd⟩,_⟩:=h
 exact ⟨es,h1,h2,hd⟩
theorem zpc {H:GH} {s m:Nat} {S:List Stp} (h:zvB H s m S) (x:El) (hk:zaA true kLs (elG x)=true) (hL:(zb2 S x).length≤1000000) (hbo:H.bo≤H.objs.length) :
 ∃ v',ecall T zoI [.ptr s 0,.agg (elC x)] H=some (v',zbY (zb2 S x) H)∧Elems 5 v' ((zb2 S x).map zbX):=by
 obtain ⟨es,h1,h2,hd⟩:=h
 have hv:=znV hk hd
 generalize zb2 S x=L at hv hL
 obtain ⟨w,c1,c2⟩:=zfF L _ hv.get hL H
 obtain ⟨v',hf,hE⟩:=zpe c2 hbo
 refine ⟨v', ?_,hE⟩
 have hok':w.ok=true:=by rcases c2.elems with ⟨_,h⟩ | ⟨_,h⟩; exact h.ok; subst h; rfl
 have hu':∀ t,zbx t w=w:=by rcases c2.elems with ⟨_,h⟩ | ⟨_,h⟩; exact zaf h; subst h; exact fun _=>rfl
 have gok:=hv.get.ok
 have gu:=zaf hv.get
 have vok:=hE.ok
 have vu:=zaf hE
 apply optW.eq
 rw [zad zAp rfl (by simp [zmq]),zab]
 simp only [elG,elC] at hk c1 gok gu
 simp [zmq,zxI,elC,h1,h2,hk,c1,hok',hu',hf,gok,gu,vok,vu,zbc,zdc]
def zj8 (x y:El):Bool:=zyN y x
def zuk (out:List El) (x:El):List El:=if out[ixP (zj8 x) out]?=some x then out else zk9 (zj8 x) x out
def zla (out:List El) (e:Evt):List El:=zuk out e.x
def zbg (R:List Evt):List El:=R.foldl zla []
theorem zvC (out:List El) (x:El):(zuk out x).length≤out.length+1:=by
 unfold zuk; split
 ·omega
 ·rw [znU]; exact Nat.le_refl _
theorem zex (R:List Evt):(zbg R).length≤R.length:=by
 suffices h:∀ (l:List Evt) (out:List El),(l.foldl zla out).length≤out.length+l.length by
  have:=h R []; simpa [zbg] using this
 intro l
 induction l with
 | nil=>intro out; simp
 | cons e l ih=>intro out; rw [List.foldl_cons,List.length_cons]; have h1:=ih (zla out e); have h2:(zla out e).length≤out.length+1:=zvC out e.x; omega
theorem zhH {α:Type} {p:α→Bool} {e y:α} {out:List α} : zk9 p e (y::out)=if p y then y::zk9 p e out else e::y::out:=by
 unfold zk9 ixP
 rw [List.takeWhile_cons]
 split <;> simp
theorem zsm {α:Type} (p:α→Bool) (e:α) (out:List α):(zk9 p e out).Perm (e::out):=by
 unfold zk9
 refine List.perm_middle.trans ?_
 rw [List.take_append_drop]
theorem zlb {x y:El} {out:List El} : zuk (y::out) x=if zj8 x y then y::zuk out x else if y=x then y::out else x::y::out:=by
 unfold zuk
 have hi:ixP (zj8 x) (y::out)=if zj8 x y then ixP (zj8 x) out+1 else 0:=by
  unfold ixP; rw [List.takeWhile_cons]; split <;> simp
 rw [hi]
 by_cases h:zj8 x y
 ·rw [if_pos h,if_pos h,List.getElem?_cons_succ]
  split
  ·rfl
  ·rw [zhH,if_pos h]
 ·rw [if_neg h,if_neg h]
  by_cases h2:y=x
  ·rw [if_pos h2,if_pos (by rw [h2]; rfl)]
  ·rw [if_neg h2,if_neg (by simpa using h2),zhH,if_neg h]
def zxT (l:List El):Prop:=l.Pairwise fun a b=>zdu a b<0
theorem zpd {x y z:El} (h1:zdu x y<0) (h2:zdu y z<0):zdu x z<0:=by
 have hs:=ordE_ok.swo fun p:El=>p
 have:=hs.trans x y z (decide_eq_true h1) (decide_eq_true h2)
 simpa using this
theorem addE_mem {x z:El} : ∀ {out:List El},z∈zuk out x↔z=x∨z∈out
 | []=>by
  have:zuk [] x=[x]:=rfl
  rw [this]; simp
 | y::out=>by
  rw [zlb]
  split
  ·rw [List.mem_cons,addE_mem,List.mem_cons]
   constructor
   ·rintro (h | h | h)
    ·exact .inr (.inl h)
    ·exact .inl h
    ·exact .inr (.inr h)
   ·rintro (h | h | h)
    ·exact .inr (.inl h)
    ·exact .inl h
    ·exact .inr (.inr h)
  ·split
   ·rename_i h
    rw [List.mem_cons]
    constructor
    ·exact fun h2=>.inr h2
    ·rintro (h2 | h2)
     ·exact .inl (by rw [h2,h])
     ·exact h2
   ·rw [List.mem_cons]
theorem zlc {x:El} : ∀ {out:List El},zxT out→zxT (zuk out x)
 | [],_=>by
  have:zuk [] x=[x]:=rfl
  rw [this]; exact List.pairwise_singleton _ _
 | y::out,h=>by
  unfold zxT at h
  rw [List.pairwise_cons] at h
  rw [zlb]
  split
  ·rename_i hl
   have ih:=zlc (x:=x) h.2
   refine List.pairwise_cons.2 ⟨fun z hz=>?_,ih⟩
   rcases addE_mem.1 hz with rfl | hz
   ·simpa [zj8,zyN] using hl
   ·exact h.1 z hz
  ·rename_i hl
   split
   ·exact List.pairwise_cons.2 h
   ·rename_i hn
    have h1:¬ zdu y x<0:=by simpa [zj8,zyN] using hl
    have h2:zdu y x≠0:=fun e=>hn (ordE_ok.zero _ _ e)
    have h3:=ordE_ok.swap y x
    have h4:zdu x y<0:=by omega
    refine List.pairwise_cons.2 ⟨fun z hz=>?_,List.pairwise_cons.2 h⟩
    rcases List.mem_cons.1 hz with rfl | hz
    ·exact h4
    ·exact zpd h4 (h.1 z hz)
theorem zbJ (R:List Evt):zxT (zbg R)∧∀ z,z∈zbg R↔∃ e∈R,e.x=z:=by
 suffices h:∀ (l:List Evt) (out:List El),zxT out→zxT (l.foldl zla out)∧∀ z,z∈l.foldl zla out↔z∈out∨∃ e∈l,e.x=z by
  have:=h R [] List.Pairwise.nil
  exact ⟨this.1,fun z=>(this.2 z).trans (by simp)⟩
 intro l
 induction l with
 | nil=>intro out h; exact ⟨h,fun z=>by simp⟩
 | cons e l ih =>
  intro out h
  obtain ⟨h1,h2⟩:=ih (zla out e) (zlc h)
  refine ⟨h1,fun z=>?_⟩
  rw [List.foldl_cons,h2]
  unfold zla
  rw [addE_mem]
  constructor
  ·rintro ((h3 | h3) | ⟨a,ha,h3⟩)
   ·exact .inr ⟨e,List.mem_cons_self,h3.symm⟩
   ·exact .inl h3
   ·exact .inr ⟨a,List.mem_cons_of_mem _ ha,h3⟩
  ·rintro (h3 | ⟨a,ha,h3⟩)
   ·exact .inl (.inr h3)
   ·rcases List.mem_cons.1 ha with rfl | ha
    ·exact .inl (.inl h3.symm)
    ·exact .inr ⟨a,ha,h3⟩
def zvD (S:List Stp) (x:El):Bool:=!decide (zb2 S x=[])
def zj9 (S:List Stp) (X:List El):List Stp:=(X.filter (zvD S)).map fun x=>(x,zb2 S x)
theorem zvE {S:List Stp} {X:List El} (h:zxT X):(zj9 S X).Pairwise fun p q=>zdu p.1 q.1<0:=by
 unfold zj9
 rw [List.pairwise_map]
 exact h.filter _
theorem zvF {R:List Evt} (h:Row R) {H:GH} {s m:Nat} (hS:Sto H s m (zby R)):zeJ (zby R)=zj9 (zby R) (zbg R):=by
 obtain ⟨hr,hm⟩:=zbJ R
 have hp:=zvE (S:=zby R) hr
 have nd:(zj9 (zby R) (zbg R)).Nodup:=hp.imp fun {a b} hlt e=>by
  rw [e,ordE_ok.self] at hlt; omega
 have nd2:(zby R).Nodup:=(List.pairwise_map.1 hS.ap).imp fun h e=>h (by rw [e])
 have hperm:(zj9 (zby R) (zbg R)).Perm (zby R):=by
  rw [List.perm_iff_count]
  intro p
  rw [nd.count,nd2.count]
  have key:p∈zj9 (zby R) (zbg R)↔p∈zby R:=by
   unfold zj9
   rw [List.mem_map]
   constructor
   ·rintro ⟨x,hx,rfl⟩
    have:=(List.mem_filter.1 hx).2
    simp only [zvD,Bool.not_eq_true',decide_eq_false_iff_not] at this
    exact zux this
   ·intro hm2
    have e:=znF hS.ap hm2
    have hne:zb2 (zby R) p.1≠[]:=by rw [e]; exact hS.ne_nil p hm2
    refine ⟨p.1,List.mem_filter.2 ⟨(hm p.1).2 ?_,by simp [zvD,hne]⟩,by rw [e]⟩
    have hl:=zj7 h p.1
    have:zgn R p.1≠[]:=fun e0=>by
     rw [e0] at hl
     exact hne hl.eq_nil
    obtain ⟨a,ha⟩:=List.exists_mem_of_ne_nil _ this
    have ha:=List.mem_filter.1 ha
    have hb:=ha.2
    unfold zgm at hb
    simp only [Bool.and_eq_true,decide_eq_true_eq] at hb
    exact ⟨a,ha.1,hb.1.1⟩
  by_cases hc:p∈zby R
  ·rw [if_pos hc,if_pos (key.2 hc)]
  ·rw [if_neg hc,if_neg (fun h2=>hc (key.1 h2))]
 have h1:=zfr hperm (apart_of.2 hS.ap)
 unfold zeJ
 rw [← h1]
 refine (zgD (l:=zj9 (zby R) (zbg R)) (.refl _) (hp.imp fun {a b} hlt=>?_) zl5 fun a b ha hb e1 e2=>?_).symm
 ·have:=ordE_ok.swap a.1 b.1
  show decide (zdu b.1 a.1<0)=false
  exact decide_eq_false (by omega)
 ·have e1:decide (zdu a.1 b.1<0)=false:=e1
  have e2:decide (zdu b.1 a.1<0)=false:=e2
  have h2:=of_decide_eq_false e1
  have h3:=of_decide_eq_false e2
  have h4:=ordE_ok.swap a.1 b.1
  have h5:a.1=b.1:=ordE_ok.zero _ _ (by omega)
  obtain ⟨x,_,rfl⟩:=List.mem_map.1 ha
  obtain ⟨y,_,rfl⟩:=List.mem_map.1 hb
  have h5:x=y:=h5
  rw [h5]
end Go.Proofs.YtchjbidfmhmmhaaGreatDoor
