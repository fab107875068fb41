/- Own work: the zaG machine and what it shows, part ShB. -/
import Derived.Test.YtchjbidfmhmmhaaGreatDoorShA
import Derived.Deep.AppendLies
set_option linter.all false
namespace Go.Sh
variable [Facts]
section
variable {P:Program} {ro:Nat} {hp:List Nat} {K:Ctx} {H:GH} {lam:Nat→Option Nat} {nt:Nat} {e:Env} {a:Act}
theorem zdk {x:Operand} {l:List Operand} {r:List Src} (h:zbn ro (x::l)=some r):∃ s t,zbM ro x=some s∧zbn ro l=some t∧r=s::t:=by
 simp only [zbn,List.mapM_cons,Option.bind_eq_bind,Option.bind_eq_some_iff,Option.pure_def,Option.some.injEq] at h
 obtain ⟨s,h1,t,h2,rfl⟩:=h
 exact ⟨s,t,h1,h2,rfl⟩
theorem zlh {r:List Src} (h:zbn ro []=some r):r=[]:=by simpa [zbn] using h.symm
theorem zbj {x y:Operand} {r:List Src} (h:zbn ro [x,y]=some r):∃ s t,zbM ro x=some s∧zbM ro y=some t∧r=[s,t]:=by
 obtain ⟨s,r1,h1,h2,rfl⟩:=zdk h
 obtain ⟨t,r2,h3,h4,rfl⟩:=zdk h2
 exact ⟨s,t,h1,h3,by rw [zlh h4]⟩
theorem zhQ {x y z:Operand} {r:List Src} (h:zbn ro [x,y,z]=some r):∃ s t u,zbM ro x=some s∧zbM ro y=some t∧zbM ro z=some u∧r=[s,t,u]:=by
 obtain ⟨s,r1,h1,h2,rfl⟩:=zdk h
 obtain ⟨t,u,h3,h4,rfl⟩:=zbj h2
 exact ⟨s,t,u,h1,h3,h4,rfl⟩
theorem zei (hr:HR ro K H) (fr:FR K lam nt e a) {l:List Operand} {r:List Src} (h:zbn ro l=some r) :
 (r.map (zac e)).length=l.length∧∀ (i:Nat) g x,(r.map (zac e))[i]?=some g→l[i]?=some x→SR K lam g (a.eval x)∧zmN g:=by
 induction l generalizing r with
 | nil=>rw [zlh h]; simp
 | cons x l ih =>
  obtain ⟨s,t,h1,h2,rfl⟩:=zdk h
  obtain ⟨h3,h4⟩:=ih h2
  refine ⟨by simpa using h3,fun i g y hg hy=>?_⟩
  cases i with
  | zero=>simp at hg hy; subst hg hy; exact zaa hr fr h1
  | succ i=>exact h4 i g y (by simpa using hg) (by simpa using hy)
theorem zbk {y:Nat} {g:GV} {n:Nat} {v:Value} (h:zce y g=some n) (hv:SR K lam g v) (y':Nat) (hy:y≤y') (code:BoundsCode) (w:World) :
 (Instr.sliceBound v y' code).run P w=.ok n w∧n≤y:=by
 unfold zce at h
 split at h
 ·rename_i k i
  rw [zgO] at hv; subst hv
  split at h
  ·rename_i hb
   injection h with h; subst h
   have:0≤i∧i≤(y':Int):=by omega
   exact ⟨by simp [Instr.sliceBound,asIntOf,this],by omega⟩
  ·cases h
 ·cases h
theorem zej {y:Nat} {g:GV} {n:Nat} {v:Value} (h:gIx y g=some n) (hv:SR K lam g v):∃ k i,v=.int k i∧0≤i∧i<(y:Int)∧n=i.toNat∧n<y:=by
 unfold gIx at h
 split at h
 ·rename_i k i
  rw [zgO] at hv
  split at h
  ·rename_i hb
   injection h with h
   exact ⟨k,i,hv,hb.1,hb.2,h.symm,by omega⟩
  ·cases h
 ·cases h
theorem zcg {len cap:Nat} (hcap:len≤cap) {lo hi mx:Option Value} {args:List GV} {l h:Nat} {m:Option Nat}
 (hg:zaO len lo.isSome hi.isSome mx.isSome args=some (l,h,m))
 (hv:args.length=(lo.toList++hi.toList++mx.toList).length∧∀ (i:Nat) g v,args[i]?=some g→(lo.toList++hi.toList++mx.toList)[i]?=some v→SR K lam g v) (s:Bool) (w:World) :
 (Instr.sliceBounds s len cap lo hi mx).run P w=.ok (l,h,m.getD cap) w∧l≤h∧h≤len∧(∀ m',m=some m'→h≤m'∧m'≤len)∧(m.isSome=mx.isSome):=by
 obtain ⟨hl,hv⟩:=hv
 cases lo <;> cases hi <;> cases mx <;> simp only [Option.isSome_none,Option.isSome_some,Option.toList_none,Option.toList_some,List.nil_append,List.cons_append,List.append_nil,List.length_nil,List.length_cons] at hg hl hv
 case none.none.none =>
  match args,hl with
  | [],_ =>
   simp only [zaO,Option.some.injEq,Prod.mk.injEq] at hg
   obtain ⟨rfl,rfl,rfl⟩:=hg
   exact ⟨by simp [Instr.sliceBounds],Nat.zero_le _,Nat.le_refl _,by simp,rfl⟩
 case some.none.none =>
  match args,hl with
  | [x],_ =>
   simp only [zaO,Option.map_eq_some_iff,Prod.mk.injEq] at hg
   obtain ⟨n,h1,rfl,rfl,rfl⟩:=hg
   obtain ⟨h2,h3⟩:=zbk (P:=P) h1 (hv 0 _ _ rfl rfl) len (Nat.le_refl _) .sliceB w
   exact ⟨by simp [Instr.sliceBounds,h2],h3,Nat.le_refl _,by simp,rfl⟩
 case none.some.none =>
  match args,hl with
  | [x],_ =>
   simp only [zaO,Option.map_eq_some_iff,Prod.mk.injEq] at hg
   obtain ⟨n,h1,rfl,rfl,rfl⟩:=hg
   obtain ⟨h2,h3⟩:=zbk (P:=P) h1 (hv 0 _ _ rfl rfl) cap hcap (if s then .sliceAcap else .sliceAlen) w
   exact ⟨by simp [Instr.sliceBounds,h2],Nat.zero_le _,h3,by simp,rfl⟩
 case some.some.none =>
  match args,hl with
  | [x,y],_ =>
   simp only [zaO,Option.bind_eq_some_iff,Option.map_eq_some_iff,Prod.mk.injEq] at hg
   obtain ⟨n,h1,k,h4,rfl,rfl,rfl⟩:=hg
   obtain ⟨h2,h3⟩:=zbk (P:=P) h1 (hv 1 _ _ rfl rfl) cap hcap (if s then .sliceAcap else .sliceAlen) w
   obtain ⟨h5,h6⟩:=zbk (P:=P) h4 (hv 0 _ _ rfl rfl) n (Nat.le_refl _) .sliceB w
   exact ⟨by simp [Instr.sliceBounds,h2,h5],h6,h3,by simp,rfl⟩
 case none.some.some =>
  match args,hl with
  | [x,y],_ =>
   simp only [zaO,Option.bind_eq_some_iff,Option.map_eq_some_iff,Prod.mk.injEq] at hg
   obtain ⟨n,h1,k,h4,rfl,rfl,rfl⟩:=hg
   obtain ⟨h2,h3⟩:=zbk (P:=P) h1 (hv 1 _ _ rfl rfl) cap hcap (if s then .slice3Acap else .slice3Alen) w
   obtain ⟨h5,h6⟩:=zbk (P:=P) h4 (hv 0 _ _ rfl rfl) n (Nat.le_refl _) .slice3B w
   exact ⟨by simp [Instr.sliceBounds,h2,h5],Nat.zero_le _,by omega,by simp; omega,rfl⟩
 case some.some.some =>
  match args,hl with
  | [x,y,z],_ =>
   simp only [zaO,Option.bind_eq_some_iff,Option.map_eq_some_iff,Prod.mk.injEq] at hg
   obtain ⟨n,h1,k,h4,j,h7,rfl,rfl,rfl⟩:=hg
   obtain ⟨h2,h3⟩:=zbk (P:=P) h1 (hv 2 _ _ rfl rfl) cap hcap (if s then .slice3Acap else .slice3Alen) w
   obtain ⟨h5,h6⟩:=zbk (P:=P) h4 (hv 1 _ _ rfl rfl) n (Nat.le_refl _) .slice3B w
   obtain ⟨h8,h9⟩:=zbk (P:=P) h7 (hv 0 _ _ rfl rfl) k (Nat.le_refl _) .slice3C w
   exact ⟨by simp [Instr.sliceBounds,h2,h5,h8],h9,by omega,by simp; omega,rfl⟩
 all_goals
  exfalso
  match args,hl with
  | [x],_=>simp [zaO] at hg
  | [x,y],_=>simp [zaO] at hg
theorem zxb {l c:Nat} (s:Nat) (h:l≤c):l * s+(c - l) * s=c * s:=by
 rw [← Nat.add_mul,Nat.add_sub_cancel' h]
theorem zsD {sz l h:Nat} {m:Option Nat} {tag:Tag} (a:Addr) (ht:tag=.imm∨tag=.exact) (h1:l≤h) (h2:h≤0) (h3:∀ m',m=some m'→h≤m'∧m'≤0) :
 VR K (.sl sz ((([]:List GV).drop l).take (h - l)) (zeZ tag 0 h m)) (.slice (if m.getD 0=l then (some a:Option Addr) else (some a:Option Addr).map (·.add (l * sz))) (h - l) (m.getD 0 - l)):=by
 have e1:h=0:=by omega
 have e2:l=0:=by omega
 subst e1; subst e2
 have e3:m.getD 0=0:=by
  cases m with
  | none=>rfl
  | some m'=>have:=h3 m' rfl; simp; omega
 rw [e3,if_pos rfl]
 refine .emp a ?_
 cases m with
 | none=>rcases ht with rfl | rfl <;> simp [zeZ]
 | some m' =>
  have:m'=0:=by simpa using e3
  subst this
  exact .inr (by simp [zeZ])
theorem zsE {sz:Nat} {xs:List GV} {tag:Tag} {b off cap:Nat} {l h:Nat} {m:Option Nat} (hv:VR K (.sl sz xs tag) (.slice (some ⟨b,off,none⟩) xs.length cap))
 (h1:l≤h) (h2:h≤xs.length) (h3:∀ m',m=some m'→h≤m'∧m'≤xs.length) :
 VR K (.sl sz ((xs.drop l).take (h - l)) (zeZ tag xs.length h m))
  (.slice (if m.getD cap=l then (some ⟨b,off,none⟩:Option Addr) else (some ⟨b,off,none⟩:Option Addr).map (·.add (l * sz))) (h - l) (m.getD cap - l)):=by
 cases hv with
 | emp _ ht=>exact zsD _ ht h1 h2 h3
 | @sl _ _ _ _ _ _ cv hcap hmax hsz hI hv htag =>
 have hm1:h≤m.getD cap:=by
  cases m with
  | none=>simp; omega
  | some m'=>simp; exact (h3 m' rfl).1
 have hm2:m.getD cap≤cap:=by
  cases m with
  | none=>simp
  | some m'=>simp; have:=(h3 m' rfl).2; omega
 have hlen:((xs.drop l).take (h - l)).length=h - l:=by simp; omega
 have haddr:∃ o,(if m.getD cap=l then (some ⟨b,off,none⟩:Option Addr) else (some ⟨b,off,none⟩:Option Addr).map (·.add (l * sz)))=some ⟨b,o,none⟩∧(l<m.getD cap→o=off+l * sz):=by
  by_cases hc:m.getD cap=l
  ·rw [if_pos hc]; exact ⟨off,rfl,fun h=>by omega⟩
  ·rw [if_neg hc]
   refine ⟨off+l * sz, ?_,fun _=>rfl⟩
   simp only [Option.map_some,Addr.add]
   split
   ·rename_i h0; rw [h0]; rfl
   ·rfl
 obtain ⟨o,ho,hoo⟩:=haddr
 rw [ho]
 have hel:∀ i x,((xs.drop l).take (h - l))[i]?=some x→xs[l+i]?=some x∧i<h - l:=by
  intro i x hx
  rw [List.getElem?_take] at hx
  split at hx
  ·rename_i hi; rw [List.getElem?_drop] at hx; exact ⟨hx,hi⟩
  ·cases hx
 suffices hk:VR K (.sl sz ((xs.drop l).take (h - l)) (zeZ tag xs.length h m)) (.slice (some ⟨b,o,none⟩) ((xs.drop l).take (h - l)).length (m.getD cap - l)) by
  rw [hlen] at hk; exact hk
 refine .sl (cv:=fun i j=>cv (l+i) j) (by rw [hlen]; omega) (by omega) (fun x hx=>hsz x (List.mem_of_mem_drop (List.mem_of_mem_take hx))) (fun i x j c hx hc=>?_) (fun i x j c hx hc=>?_) ?_
 ·obtain ⟨hx',hi⟩:=hel i x hx
  have h4:=hI (l+i) x j c hx' hc
  have hlt:l<m.getD cap:=by omega
  have e1:off+(l+i) * sz+j=o+i * sz+j:=by rw [hoo hlt,Nat.add_mul]; omega
  rw [e1] at h4
  exact h4
 ·obtain ⟨hx',hi⟩:=hel i x hx
  exact hv (l+i) x j c hx' hc
 ·rw [hlen]
  cases m with
  | some m' =>
   simp only [zeZ,Option.getD_some]
   split
   ·rename_i he; simp only [TagOk]; omega
   ·trivial
  | none =>
   simp only [zeZ,Option.getD_none] at hoo hm1 ⊢
   cases tag with
   | imm=>trivial
   | exact =>
    simp only [TagOk] at htag
    simp only
    split
    ·simp only [TagOk]; omega
    ·trivial
   | tok t pos ty =>
    obtain ⟨hN,h5,p,h6,h7,h8⟩:=htag
    refine ⟨hN,by omega,p,h6,by omega,fun e1=>?_⟩
    have e2:h=xs.length:=by omega
    have e3:pos=p:=by omega
    have h8':=h8 e3
    clear h8
    rcases h8' with h9 | ⟨ti,h9,h10,h11,h12,h13⟩
    ·left; omega
    ·by_cases hc:cap=l
     ·left; omega
     ·right
      refine ⟨ti,h9,h10, ?_, ?_,h13⟩
      ·rw [hoo (by omega),← h11,e2,Nat.add_assoc,zxb sz (by omega)]
      ·rw [hoo (by omega),Nat.add_assoc,zxb sz (by omega)]
       exact h12
end
section
variable {P:Program} {ro:Nat} {hp:List Nat} {K:Ctx} {H:GH} {lam:Nat→Option Nat} {nt:Nat} {e:Env} {a:Act}
def za7 (P:Program) (K:Ctx) (lam:Nat→Option Nat) (a:Act) (o:Oper) (g:GV):Prop :=
 ∃ v,(execOp a.eval o).run P K.w=.ok (.value v) K.w∧SR K lam g v∧zmN g
def zjn (P:Program) (t:TypeId):Leaf→Prop
 | .bool=>P.underlying t=some .bool
 | .ptr=>∃ x,P.underlying t=some (.pointer x)
 | .slice=>∃ x,P.underlying t=some (.slice x)
 | .map=>∃ x y,P.underlying t=some (.map x y)
 | .func=>∃ x y z,P.underlying t=some (.func x y z)
 | .iface=>∃ x,P.underlying t=some (.interface x)
 | _=>False
set_option maxHeartbeats 4000000 in
theorem zli {l:Leaf} {x y:GV} {b:Bool} {u v:Value} (h:zba l x y=some b) (hx:SR K lam x u) (hy:SR K lam y v) (t:TypeId)
 (hu:zjn P t l) (d:Nat) (w:World):(Op.equalIn (d+1) t u v).run P w=.ok b w:=by
 cases l <;> simp only [zjn] at hu
 case bool =>
  cases x <;> cases y <;> simp only [zba] at h <;> try (cases h; done)
  injection h with h; subst h
  rw [zmO] at hx hy; subst hx hy
  simp [Op.equalIn,run_underlying hu]
 case ptr =>
  obtain ⟨d,hd⟩:=hu
  cases x <;> cases y <;> simp only [zba] at h <;> (try (cases h; done)) <;> injection h with h <;> subst h <;> cases hx <;> cases hy <;> simp [Op.equalIn,run_underlying hd]
 case slice =>
  obtain ⟨d,hd⟩:=hu
  cases x <;> cases y <;> simp only [zba] at h <;> (try (cases h; done)) <;> injection h with h <;> subst h <;> cases hx <;> cases hy <;> simp [Op.equalIn,run_underlying hd]
 case map =>
  obtain ⟨d,d',hd⟩:=hu
  cases x <;> cases y <;> simp only [zba] at h <;> (try (cases h; done)) <;> injection h with h <;> subst h <;> cases hx <;> cases hy <;> simp [Op.equalIn,run_underlying hd]
 case func =>
  obtain ⟨d,d',d'',hd⟩:=hu
  cases x <;> cases y <;> simp only [zba] at h <;> (try (cases h; done)) <;> injection h with h <;> subst h <;> cases hx <;> cases hy <;>
   simp only [Op.equalIn,Sem.run_bind,run_underlying hd,Result.andThen_ok] <;> rfl
 case iface =>
  obtain ⟨d,hd⟩:=hu
  cases x <;> cases y <;> simp only [zba] at h <;> (try (cases h; done)) <;> injection h with h <;> subst h <;> cases hx <;> cases hy <;> simp [Op.equalIn,run_underlying hd]
end
section
variable {P:Program} {ro:Nat} {hp:List Nat} {K:Ctx} {H:GH} {lam:Nat→Option Nat} {nt:Nat} {e:Env} {a:Act} {o:Oper} {p:Prim} {srcs:List Src} {g:GV}
theorem zAL (hr:HR ro K H) (fr:FR K lam nt e a) {x:Operand} {s:Src} (ho:o.op=.move x∨o.op=.assign x) (hs:zbM ro x=some s) (hg:zaF .id ([s].map (zac e))=some g):za7 P K lam a o g:=by
 simp only [List.map_cons,List.map_nil,zaF,Option.some.injEq] at hg
 subst hg
 obtain ⟨h1,h2⟩:=zaa hr fr hs
 rcases ho with ho | ho <;> exact ⟨a.eval x,by simp [execOp,ho],h1,h2⟩
theorem zx2 (hr:HR ro K H) (fr:FR K lam nt e a) {c x y:Operand} (ho:o.op=.pick c x y) (hs:zbn ro [c,x,y]=some srcs) (hg:zaF .pick (srcs.map (zac e))=some g):za7 P K lam a o g:=by
 obtain ⟨s,t,u,h1,h2,h3,rfl⟩:=zhQ hs
 obtain ⟨q1,p1⟩:=zaa hr fr h1
 obtain ⟨q2,p2⟩:=zaa hr fr h2
 obtain ⟨q3,p3⟩:=zaa hr fr h3
 simp only [List.map_cons,List.map_nil] at hg
 generalize zac e s=x1 at *
 cases x1 <;> simp only [zaF] at hg <;> try (cases hg; done)
 rename_i b
 rw [zmO] at q1
 injection hg with hg; subst hg
 refine ⟨if b then a.eval x else a.eval y,by simp [execOp,ho,q1,asBool], ?_⟩
 cases b
 ·exact ⟨q3,p3⟩
 ·exact ⟨q2,p2⟩
theorem zgv {op:BinOp} {t:TypeId} {x y:Operand} {u v:Value} (h1:u=.nilIface→v=.nilIface→zcN x=true∨zcN y=true)
 (h2:(∃ cs,u=.agg cs)→(∃ cs,v=.agg cs)→P.eqGuardType P.depth t=false) (w:World):(eqGuard op t x y u v).run P w=.ok () w:=by
 cases op <;> simp only [eqGuard,Bool.not_true,Bool.not_false,Bool.false_eq_true,if_false,if_true,Sem.run_pure]
 all_goals
  split
  ·have h3:=h1 rfl rfl
   rcases h3 with h3 | h3
   ·cases x <;> simp [zcN] at h3 <;> simp
   ·cases y <;> simp [zcN] at h3 <;> simp
  ·have h3:=h2 ⟨_,rfl⟩ ⟨_,rfl⟩
   simp [run_program,h3]
  ·simp
theorem zhR {op:BinOp} {t yt:TypeId} {x y:Operand} (ho:o.op=.binOp op t x y yt) (hgd:(eqGuard op t x y (a.eval x) (a.eval y)).run P K.w=.ok () K.w) {v:Value} (hb:(binOp op t (a.eval x) (a.eval y)).run P K.w=.ok v K.w) :
 (execOp a.eval o).run P K.w=.ok (.value v) K.w:=by
 simp [execOp,ho,hgd,hb]
theorem zjo {op:BinOp} {x y g:GV} {u:Value} (h:zsv op x y=some g) (hx:SR K lam x u):(∃ k n,u=.int k n)∨∃ s,u=.string s:=by
 unfold zsv at h
 split at h
 ·rw [zgO] at hx; exact .inl ⟨_,_,hx⟩
 ·rw [zfO] at hx; exact .inr ⟨_,hx⟩
 ·cases h
theorem zAM (hr:HR ro K H) (fr:FR K lam nt e a) {op:BinOp} {t yt:TypeId} {x y:Operand} (ho:o.op=.binOp op t x y yt) (hs:zbn ro [x,y]=some srcs) (hg:zaF (.bin op) (srcs.map (zac e))=some g):za7 P K lam a o g:=by
 obtain ⟨s,u,h1,h2,rfl⟩:=zbj hs
 obtain ⟨q1,p1⟩:=zaa hr fr h1
 obtain ⟨q2,p2⟩:=zaa hr fr h2
 simp only [List.map_cons,List.map_nil,zaF] at hg
 obtain ⟨h3,h4⟩:=zpu (P:=P) hg q1 q2 t K.w
 refine ⟨zjl g,zhR ho (zgv (fun e1=>?_) (fun e1=>?_) _) h3,SR.of h4,zai h4.ok⟩
 ·rcases zjo hg q1 with ⟨k,n,hu⟩ | ⟨s,hu⟩ <;> rw [hu] at e1 <;> cases e1
 ·obtain ⟨cs,e1⟩:=e1
  rcases zjo hg q1 with ⟨k,n,hu⟩ | ⟨s,hu⟩ <;> rw [hu] at e1 <;> cases e1
theorem zhS {op:BinOp} {t:TypeId} {u v:Value} {b:Bool} (hop:op=.eql∨op=.neq) (h1:∀ k n,u≠.int k n) (h2:∀ s,u≠.string s) (h3:∀ k n,u≠.float k n) (h4:∀ k n m,u≠.complex k n m)
 {w:World} (h:(Op.equalIn 10000 t u v).run P w=.ok b w):(binOp op t u v).run P w=.ok (.bool (if op == .neq then !b else b)) w:=by
 have e1:Op.equal t u v=Op.equalIn 10000 t u v:=rfl
 have key:(binOp .eql t u v).run P w=.ok (.bool b) w∧(binOp .neq t u v).run P w=.ok (.bool (!b)) w:=by
  cases u <;> first
   | exact absurd rfl (h1 _ _)
   | exact absurd rfl (h2 _)
   | exact absurd rfl (h3 _ _)
   | exact absurd rfl (h4 _ _ _)
   | (constructor <;> simp only [binOp,e1,Sem.run_bind,h,Result.andThen_ok,Sem.run_pure])
 rcases hop with rfl | rfl
 ·exact key.1
 ·exact key.2
theorem zpv {l:Leaf} {x y:GV} {b:Bool} {u:Value} {t:TypeId} (h:zba l x y=some b) (hx:SR K lam x u) (ht:zjn P t l) :
 (∀ k n,u≠.int k n)∧(∀ s,u≠.string s)∧(∀ k n,u≠.float k n)∧(∀ k n m,u≠.complex k n m)∧(∀ cs,u≠.agg cs)∧(l≠.iface→u≠.nilIface):=by
 cases l <;> simp only [zjn] at ht <;> cases x <;> simp only [zba] at h <;> (try (cases h; done)) <;> cases hx <;> simp
theorem zAN (hr:HR ro K H) (fr:FR K lam nt e a) {op:BinOp} {t yt:TypeId} {x y:Operand} {l:Leaf} (ho:o.op=.binOp op t x y yt) (hop:op=.eql∨op=.neq) (hs:zbn ro [x,y]=some srcs)
 (ht:zjn P t l) (hi:l=.iface→zcN x=true∨zcN y=true) (hg:zaF (.eq1 (op == .neq) l) (srcs.map (zac e))=some g):za7 P K lam a o g:=by
 obtain ⟨s,u,h1,h2,rfl⟩:=zbj hs
 obtain ⟨q1,p1⟩:=zaa hr fr h1
 obtain ⟨q2,p2⟩:=zaa hr fr h2
 simp only [List.map_cons,List.map_nil,zaF,Option.map_eq_some_iff] at hg
 obtain ⟨b,hb,rfl⟩:=hg
 have h3:=zli (P:=P) hb q1 q2 t ht 9999 K.w
 obtain ⟨a1,a2,a3,a4,a5,a6⟩:=zpv hb q1 ht
 refine ⟨_,zhR ho (zgv (fun e1 _=>?_) (fun e1=>?_) _) (zhS hop a1 a2 a3 a4 h3),SR.of (.bool _),fun n hn=>hn⟩
 ·by_cases hl:l=.iface
  ·exact hi hl
  ·exact absurd e1 (a6 hl)
 ·obtain ⟨cs,e1⟩:=e1
  exact absurd e1 (a5 cs)
theorem zAO (hr:HR ro K H) (fr:FR K lam nt e a) {op:BinOp} {t yt:TypeId} {x y:Operand} {ls:List Leaf} (ho:o.op=.binOp op t x y yt) (hop:op=.eql∨op=.neq) (hs:zbn ro [x,y]=some srcs)
 (hl:zcT P 50 t=some ls) {n:Nat} (hsz:zaS P t=some n) (hag:zg9 P t=some true) (hln:ls.length=n) (hgd:P.eqGuardType P.depth t=false) (hg:zaF (.eqv (op == .neq) ls) (srcs.map (zac e))=some g):za7 P K lam a o g:=by
 obtain ⟨s,u,h1,h2,rfl⟩:=zbj hs
 obtain ⟨q1,p1⟩:=zaa hr fr h1
 obtain ⟨q2,p2⟩:=zaa hr fr h2
 simp only [List.map_cons,List.map_nil] at hg
 generalize zac e s=x1 at *
 generalize zac e u=x2 at *
 cases x1 <;> cases x2 <;> simp only [zaF] at hg <;> try (cases hg; done)
 rename_i cs ds
 simp only [Option.map_eq_some_iff] at hg
 obtain ⟨b,hb,rfl⟩:=hg
 obtain ⟨xs,e1,hx⟩:=CR.agg q1
 obtain ⟨ys,e2,hy⟩:=CR.agg q2
 have hlen:=zeg hb
 have t1:(cs.drop 0).take n=cs:=by rw [List.drop_zero,List.take_of_length_le (by omega)]
 have t2:(ds.drop 0).take n=ds:=by rw [List.drop_zero,List.take_of_length_le (by omega)]
 obtain ⟨u1,v1,r1,r2,r3⟩:=zlg (P:=P) K.w 50 9950 t ls n true hl hsz hag hln (.inl rfl) cs ds xs ys 0 b hx hy (by rw [t1,t2]; exact hb)
 have s1:xs.size=n:=by rw [← hx.1]; omega
 have s2:ys.size=n:=by rw [← hy.1]; omega
 simp only [part,Sem.run_bind,zbs hag,Result.andThen_ok,if_true,zax hsz,Sem.run_pure,Result.ok.injEq,and_true,Nat.zero_add] at r1 r2
 rw [← s1,Array.extract_size] at r1
 rw [← s2,Array.extract_size] at r2
 rw [← r1,← r2] at r3
 refine ⟨_,zhR ho ?_ (v:=.bool (if op == .neq then !b else b)) ?_,SR.of (.bool _),fun n hn=>hn⟩
 ·rw [e1,e2]; exact zgv (fun h=>by cases h) (fun _ _=>hgd) _
 ·rw [e1,e2]; exact zhS hop (by simp) (by simp) (by simp) (by simp) r3
end
section
variable {P:Program} {ro:Nat} {hp:List Nat} {K:Ctx} {H:GH} {lam:Nat→Option Nat} {nt:Nat} {e:Env} {a:Act} {o:Oper} {p:Prim} {srcs:List Src} {g:GV}
theorem zDw (hr:HR ro K H) (fr:FR K lam nt e a) {op:UnOp} {t:TypeId} {x:Operand} {s:Src} (ho:o.op=.unOp op t x) (hs:zbM ro x=some s) (hg:zaF (.un op) ([s].map (zac e))=some g):za7 P K lam a o g:=by
 obtain ⟨q1,p1⟩:=zaa hr fr hs
 simp only [List.map_cons,List.map_nil,zaF] at hg
 obtain ⟨h1,h2⟩:=zsC (P:=P) hg q1 K.w
 exact ⟨zjl g,by simp [execOp,ho,h1],SR.of h2,zai h2.ok⟩
theorem zx3 (hr:HR ro K H) (fr:FR K lam nt e a) {u t:TypeId} {d:TypeDesc} {k:IntKind} {x:Operand} {s:Src} (ho:o.op=.convert u t x) (hu:P.underlying u=some d) (ht:P.underlying t=some (.int k)) (hs:zbM ro x=some s) (hg:zaF (.conv k) ([s].map (zac e))=some g):za7 P K lam a o g:=by
 obtain ⟨q1,p1⟩:=zaa hr fr hs
 simp only [List.map_cons,List.map_nil] at hg
 generalize zac e s=x1 at *
 cases x1 <;> simp only [zaF] at hg <;> try (cases hg; done)
 injection hg with hg; subst hg
 rw [zgO] at q1
 exact ⟨_,by simp [execOp,ho,q1,convert,run_underlying hu,run_underlying ht,Conv.intToInt],SR.of (.int _ _),fun n hn=>hn⟩
theorem zvN (hr:HR ro K H) (fr:FR K lam nt e a) {u t:TypeId} {x:Operand} {s:Src} (ho:o.op=.convert u t x) (hu:P.underlying u=some .string) (ht:P.underlying t=some .string) (hs:zbM ro x=some s) (hg:zaF .strid ([s].map (zac e))=some g):za7 P K lam a o g:=by
 obtain ⟨q1,p1⟩:=zaa hr fr hs
 simp only [List.map_cons,List.map_nil] at hg
 generalize zac e s=x1 at *
 cases x1 <;> simp only [zaF] at hg <;> try (cases hg; done)
 injection hg with hg; subst hg
 rw [zfO] at q1
 exact ⟨_,by simp [execOp,ho,q1,convert,run_underlying hu,run_underlying ht],SR.of (.str _),fun n hn=>hn⟩
theorem ze1 (w:World) (F:Value→ByteArray→Sem (ForInStep ByteArray)) (hF:∀ n s,F (.int .u8 n) s=pure (ForInStep.yield (s.push (UInt8.ofNat n.toNat)))) :
 ∀ (ns:List Int) (s:ByteArray),(forIn (m:=Sem) (ns.map (Value.int .u8)) s F).run P w=.ok (ns.foldl (fun (s:ByteArray) n=>s.push (UInt8.ofNat n.toNat)) s) w:=by
 intro ns
 induction ns with
 | nil=>intro s; simp
 | cons n ns ih=>intro s; simp only [List.map_cons,List.forIn_cons,List.foldl_cons,hF,Sem.run_bind,Sem.run_pure,Result.andThen_ok]; exact ih _
theorem zpw:∀ (xs:List GV) (l:List UInt8),zcM xs=some l→∀ (i:Nat) (y:GV),xs[i]?=some y→∃ n:Int,y=GV.int .u8 n:=by
 intro xs
 induction xs with
 | nil=>intro l _ i y hy; simp at hy
 | cons z zs ih =>
  intro l hl i y hy
  unfold zcM at hl
  split at hl
  ·rename_i hh; cases hh
  ·rename_i n l1 hh
   injection hh with e1 e2; subst e1 e2
   simp only [Option.map_eq_some_iff] at hl
   obtain ⟨l2,h2,_⟩:=hl
   cases i with
   | zero=>simp at hy; exact ⟨n,hy.symm⟩
   | succ i=>exact ih l2 h2 i y (by simpa using hy)
  ·cases hl
theorem zlj (ns:List Int):∀ s:ByteArray,(ns.foldl (fun (s:ByteArray) n=>s.push (UInt8.ofNat n.toNat)) s)=⟨s.data++(ns.map (fun n=>UInt8.ofNat n.toNat)).toArray⟩:=by
 induction ns with
 | nil=>intro s; simp
 | cons n ns ih=>intro s; rw [List.foldl_cons,ih]; simp [ByteArray.push]
theorem zAP (hr:HR ro K H) (fr:FR K lam nt e a) {u t el:TypeId} {x:Operand} {s:Src} (ho:o.op=.convert u t x) (hu:P.underlying u=some (.slice el)) (ht:P.underlying t=some .string) (hel:P.underlying el=some (.int .u8))
 (hs:zbM ro x=some s) (hg:zaF .b2s ([s].map (zac e))=some g):za7 P K lam a o g:=by
 obtain ⟨q1,p1⟩:=zaa hr fr hs
 simp only [List.map_cons,List.map_nil] at hg
 generalize zac e s=x1 at *
 cases x1 <;> simp only [zaF] at hg <;> try (cases hg; done)
 case nilsl =>
  injection hg with hg; subst hg
  rw [zeA] at q1
  exact ⟨_,by simp [execOp,ho,q1,convert,run_underlying hu,run_underlying ht,run_underlying hel,Conv.bytesToString],SR.of (.str _),fun n hn=>hn⟩
 case sl sz xs tag =>
  simp only [Option.map_eq_some_iff] at hg
  obtain ⟨l,hl,rfl⟩:=hg
  cases hq:(a.eval x) <;> rw [hq] at q1 <;> try (cases q1; done)
  rename_i ad len cap
  cases q1 with
  | emp ad =>
   simp only [zcM,Option.some.injEq] at hl
   subst hl
   refine ⟨.string ⟨#[]⟩, ?_,SR.of (.str _),fun n hn=>hn⟩
   have hload:=run_loadCells_list (P:=P) (w:=K.w) ad [] (by simp)
   simp only [List.length_nil] at hload
   simp [execOp,ho,hq,convert,run_underlying hu,run_underlying ht,run_underlying hel,Conv.bytesToString,hload]
   rfl
  | @sl _ _ _ b off _ cv hcap hmax hsz hI hv htag =>
  have hel1:=zpw xs l hl
  obtain ⟨vs,hvd⟩:∃ vs:List Value,vs=(List.range xs.length).map fun i=>cv i 0:=⟨_,rfl⟩
  have hvs:vs.length=xs.length:=by simp [hvd]
  have hsz1:xs≠[]→sz=1:=by
   intro hne
   match xs,hne with
   | y::ys,_ =>
    obtain ⟨n,hn⟩:=hel1 0 y rfl
    have:=(hsz y (by simp)).1
    subst hn; simpa [GV.cells] using this.symm
  have hrel:∀ (i:Nat) c v,xs[i]?=some c→vs[i]?=some v→VR K c v:=by
   intro i c v hc hv2
   obtain ⟨n,rfl⟩:=hel1 i c hc
   have hi:i<xs.length:=(List.getElem?_eq_some_iff.1 hc).1
   have:v=cv i 0:=by simp [hvd,List.getElem?_map,List.getElem?_range hi] at hv2; exact hv2.symm
   rw [this]
   exact hv i _ 0 _ hc rfl
  obtain ⟨ns,hn1,hn2⟩:=zfP xs l vs hl hvs.symm hrel
  have hload:=run_loadCells_list (P:=P) (w:=K.w) ⟨b,off,none⟩ vs (by
   intro j v hj
   have hjl:j<xs.length:=by rw [← hvs]; exact (List.getElem?_eq_some_iff.1 hj).1
   have hxj:xs[j]?=some xs[j]:=List.getElem?_eq_getElem hjl
   obtain ⟨n,hn⟩:=hel1 j _ hxj
   have:v=cv j 0:=by simp [hvd,List.getElem?_map,List.getElem?_range hjl] at hj; exact hj.symm
   rw [this]
   have h3:=(hI j _ 0 (.int .u8 n) hxj (by rw [hn]; rfl)).2
   have h4:sz=1:=hsz1 (by intro h; rw [h] at hjl; simp at hjl)
   rw [h4] at h3
   have e1:(⟨b,off,none⟩:Addr).add j=⟨b,off+j * 1+0,none⟩:=by
    unfold Addr.add; split <;> simp_all
   rw [e1]; exact h3)
  rw [hvs] at hload
  refine ⟨.string ⟨l.toArray⟩, ?_,SR.of (.str _),fun n hn=>hn⟩
  simp only [execOp,ho,hq,convert,Sem.run_bind,run_underlying hu,run_underlying ht,run_underlying hel,Result.andThen_ok,Conv.bytesToString,hload,Sem.run_pure]
  rw [← Array.forIn_toList]
  simp only [List.toList_toArray]
  rw [hn1]
  rw [ze1 (P:=P) K.w _ (fun _ _=>rfl),zlj,← hn2]
  have e0:ByteArray.empty.data = #[]:=rfl
  rw [e0,Array.empty_append]; rfl
end
section
variable {P:Program} {ro:Nat} {hp:List Nat} {K:Ctx} {H:GH} {lam:Nat→Option Nat} {nt:Nat} {e:Env} {a:Act} {o:Oper} {p:Prim} {srcs:List Src} {g:GV}
theorem zch (b o n:Nat):(⟨b,o,none⟩:Addr).add n=⟨b,o+n,none⟩:=by
 unfold Addr.add; split <;> simp_all
theorem zn0 {x:GV} {v:Value} (hv:SR K lam x v) {off:Nat} {g:GV} (hg:zaF (.faddr off) [x]=some g) :
 ∃ b o,v=.pointer (some ⟨b,o,none⟩)∧SR K lam g (.pointer (some ⟨b,o+off,none⟩))∧zmN g:=by
 cases x <;> simp only [zaF] at hg <;> try (cases hg; done)
 case ptr id off' =>
  injection hg with hg; subst hg
  cases hv with
  | @ptr _ _ b o hid h =>
  exact ⟨b,o,rfl,SR.of (.ptr hid (fun c hc=>⟨(h c hc).1,by rw [(h c hc).2]⟩)),fun n hn=>hn⟩
 case laddr s g o =>
  injection hg with hg; subst hg
  obtain ⟨b,h1,h2⟩:=hv
  exact ⟨b,o,h2,⟨b,h1,rfl⟩,fun n hn=>hn⟩
 case el cs o =>
  injection hg with hg; subst hg
  cases hv with
  | @el _ _ b base o' cv ho hI hv =>
  exact ⟨b,o',rfl,SR.of (.el (base:=base) (cv:=cv) (by omega) hI hv),fun n hn=>hn⟩
theorem zvO (hr:HR ro K H) (fr:FR K lam nt e a) {t:TypeId} {i n:Nat} {fs:Array Field} {f:Field} {x:Operand} {s:Src} (ho:o.op=.fieldAddr t x i) (ht:P.underlying t=some (.struct fs)) (hf:fs[i]?=some f)
 (hn:zaS P f.type=some n) (hn0:n≠0) (hs:zbM ro x=some s) (hg:zaF (.faddr f.offset) ([s].map (zac e))=some g):za7 P K lam a o g:=by
 obtain ⟨q1,p1⟩:=zaa hr fr hs
 obtain ⟨b,o',h1,h2,h3⟩:=zn0 q1 hg
 refine ⟨_, ?_,h2,h3⟩
 simp [execOp,ho,h1,Instr.fieldAt,run_underlying ht,hf,Instr.sureAddr,fieldPlace,zax hn,hn0,zch]
theorem zvP (hr:HR ro K H) (fr:FR K lam nt e a) {t:TypeId} {i n:Nat} {ag:Bool} {fs:Array Field} {f:Field} {x:Operand} {s:Src} (ho:o.op=.field t x i) (ht:P.underlying t=some (.struct fs)) (hf:fs[i]?=some f)
 (hn:zaS P f.type=some n) (ha:zg9 P f.type=some ag) (hs:zbM ro x=some s) (hg:zaF (.field f.offset n ag) ([s].map (zac e))=some g):za7 P K lam a o g:=by
 obtain ⟨q1,p1⟩:=zaa hr fr hs
 simp only [List.map_cons,List.map_nil] at hg
 generalize zac e s=x1 at *
 cases x1 <;> simp only [zaF] at hg <;> try (cases hg; done)
 obtain ⟨vs,e1,h1⟩:=CR.agg q1
 obtain ⟨v,h2,h3⟩:=zgQ (P:=P) hg h1 ha hn K.w
 exact ⟨v,by simp [execOp,ho,e1,Instr.field,run_underlying ht,hf,asAgg,h2],SR.of h3,zai h3.ok⟩
theorem zsF (hr:HR ro K H) (fr:FR K lam nt e a) {t el:TypeId} {n:Nat} {x i:Operand} (ho:o.op=.indexAddr t x i) (ht:P.underlying t=some (.slice el))
 (hn:zaS P el=some n) (hs:zbn ro [x,i]=some srcs) (hg:zaF (.ixaddr n) (srcs.map (zac e))=some g):za7 P K lam a o g:=by
 obtain ⟨s,u,h1,h2,rfl⟩:=zbj hs
 obtain ⟨q1,p1⟩:=zaa hr fr h1
 obtain ⟨q2,p2⟩:=zaa hr fr h2
 simp only [List.map_cons,List.map_nil] at hg
 generalize zac e s=x1 at *
 generalize zac e u=x2 at *
 cases x1 <;> simp only [zaF] at hg <;> try (cases hg; done)
 case sl sz xs tag =>
  split at hg
  ·rename_i e1; subst e1
   simp only [Option.bind_eq_some_iff,Option.map_eq_some_iff] at hg
   obtain ⟨j,hj,y,hy,rfl⟩:=hg
   obtain ⟨k,iz,e2,h3,h4,h5,h6⟩:=zej hj q2
   cases hq:a.eval x <;> rw [hq] at q1 <;> try (cases q1; done)
   cases q1 with
   | emp=>cases hy
   | @sl _ _ _ b off _ cv hcap hmax hsz hI hv htag =>
   have h7:VR K (.el y.cells 0) (.pointer (some ⟨b,off+j * n,none⟩)):=.el (base:=off+j * n) (cv:=fun k=>cv j k) rfl (fun k c hc=>hI j y k c hy hc) (fun k c hc=>hv j y k c hy hc)
   refine ⟨_, ?_,SR.of h7,fun n hn=>hn⟩
   have h8:0≤iz∧iz<(xs.length:Int):=⟨h3,h4⟩
   simp [execOp,ho,hq,e2,Instr.indexAt,asIntOf,run_underlying ht,h8,zax hn,zch,h5]
  ·cases hg
 case hsl id off len sz ag =>
  split at hg
  ·rename_i e1; subst e1
   simp only [Option.map_eq_some_iff] at hg
   obtain ⟨j,hj,rfl⟩:=hg
   obtain ⟨k,iz,e2,h3,h4,h5,h6⟩:=zej hj q2
   cases hq:a.eval x <;> rw [hq] at q1 <;> try (cases q1; done)
   cases q1 with
   | @hsl _ _ _ _ _ b off' _ hid h hcap hmax =>
   have h7:VR K (.ptr id (off+j * n)) (.pointer (some ⟨b,off'+j * n,none⟩)):=.ptr hid (fun c hc=>⟨(h c hc).1,by rw [(h c hc).2.1]⟩)
   refine ⟨_, ?_,SR.of h7,fun n hn=>hn⟩
   have h8:0≤iz∧iz<(len:Int):=⟨h3,h4⟩
   simp [execOp,ho,hq,e2,Instr.indexAt,asIntOf,run_underlying ht,h8,zax hn,zch,h5]
  ·cases hg
theorem zpx (hr:HR ro K H) (fr:FR K lam nt e a) {t el:TypeId} {m n:Nat} {x i:Operand} (ho:o.op=.indexAddr t x i) (ht:P.underlying t=some (.array m el))
 (hn:zaS P el=some n) (hs:zbn ro [x,i]=some srcs) (hg:zaF (.ixaddrA m n) (srcs.map (zac e))=some g):za7 P K lam a o g:=by
 obtain ⟨s,u,h1,h2,rfl⟩:=zbj hs
 obtain ⟨q1,p1⟩:=zaa hr fr h1
 obtain ⟨q2,p2⟩:=zaa hr fr h2
 simp only [List.map_cons,List.map_nil] at hg
 have key:∃ j,gIx m (zac e u)=some j∧zaF (.faddr (j * n)) [zac e s]=some g:=by
  generalize zac e s=x1 at *
  cases x1 <;> simp only [zaF,Option.map_eq_some_iff] at hg ⊢ <;> first
   | (cases hg; done)
   | (obtain ⟨j,hj,rfl⟩:=hg; exact ⟨j,hj,rfl⟩)
 obtain ⟨j,hj,hg⟩:=key
 obtain ⟨k,iz,e2,h3,h4,h5,h6⟩:=zej hj q2
 obtain ⟨b,o',e3,h7,h8⟩:=zn0 q1 hg
 refine ⟨_, ?_,h7,h8⟩
 have h9:0≤iz∧iz<(m:Int):=⟨h3,h4⟩
 simp [execOp,ho,e3,e2,Instr.indexAt,asIntOf,run_underlying ht,Instr.sureAddr,h9,zax hn,zch,h5]
theorem zvQ (hr:HR ro K H) (fr:FR K lam nt e a) {t:TypeId} {x i:Operand} (ho:o.op=.index t x i) (ht:P.underlying t=some .string)
 (hs:zbn ro [x,i]=some srcs) (hg:zaF .ixstr (srcs.map (zac e))=some g):za7 P K lam a o g:=by
 obtain ⟨s,u,h1,h2,rfl⟩:=zbj hs
 obtain ⟨q1,p1⟩:=zaa hr fr h1
 obtain ⟨q2,p2⟩:=zaa hr fr h2
 simp only [List.map_cons,List.map_nil] at hg
 generalize zac e s=x1 at *
 generalize zac e u=x2 at *
 cases x1 <;> simp only [zaF] at hg <;> try (cases hg; done)
 rename_i sb
 simp only [Option.bind_eq_some_iff,Option.map_eq_some_iff] at hg
 obtain ⟨j,hj,y,hy,rfl⟩:=hg
 obtain ⟨k,iz,e2,h3,h4,h5,h6⟩:=zej hj q2
 rw [zfO] at q1
 refine ⟨.int .u8 y.toNat, ?_,SR.of (.int _ _),fun n hn=>hn⟩
 subst h5
 simp [execOp,ho,q1,e2,Instr.index,asIntOf,run_underlying ht,h3,hy]
theorem zvR (hr:HR ro K H) (fr:FR K lam nt e a) {t el:TypeId} {m n:Nat} {ag:Bool} {x i:Operand} (ho:o.op=.index t x i) (ht:P.underlying t=some (.array m el))
 (hn:zaS P el=some n) (ha:zg9 P el=some ag) (hs:zbn ro [x,i]=some srcs) (hg:zaF (.ixarr m n ag) (srcs.map (zac e))=some g):za7 P K lam a o g:=by
 obtain ⟨s,u,h1,h2,rfl⟩:=zbj hs
 obtain ⟨q1,p1⟩:=zaa hr fr h1
 obtain ⟨q2,p2⟩:=zaa hr fr h2
 simp only [List.map_cons,List.map_nil] at hg
 generalize zac e s=x1 at *
 generalize zac e u=x2 at *
 cases x1 <;> simp only [zaF] at hg <;> try (cases hg; done)
 simp only [Option.bind_eq_some_iff] at hg
 obtain ⟨j,hj,hg⟩:=hg
 obtain ⟨k,iz,e2,h3,h4,h5,h6⟩:=zej hj q2
 obtain ⟨vs,e1,hc⟩:=CR.agg q1
 obtain ⟨v,h7,h8⟩:=zgQ (P:=P) hg hc ha hn K.w
 refine ⟨v, ?_,SR.of h8,zai h8.ok⟩
 subst h5
 have h9:0≤iz∧iz<(m:Int):=⟨h3,h4⟩
 simp [execOp,ho,e1,e2,Instr.index,asIntOf,run_underlying ht,h9,zax hn,h7]
theorem zfQ (hr:HR ro K H) (fr:FR K lam nt e a) {x:Option Operand} {r:List Src} (h:zps ro x=some r) :
 (r.map (zac e)).length=(x.map a.eval).toList.length∧∀ (i:Nat) g v,(r.map (zac e))[i]?=some g→(x.map a.eval).toList[i]?=some v→SR K lam g v:=by
 cases x with
 | none=>simp only [zps,Option.some.injEq] at h; subst h; simp
 | some x =>
  simp only [zps,Option.map_eq_some_iff] at h
  obtain ⟨s,hs,rfl⟩:=h
  obtain ⟨q1,_⟩:=zaa hr fr hs
  refine ⟨rfl,fun i g v hg hv=>?_⟩
  cases i with
  | zero=>simp at hg hv; subst hg hv; exact q1
  | succ i=>simp at hg
theorem zgw {l1 l2:List GV} {v1 v2:List Value} (h1:l1.length=v1.length∧∀ (i:Nat) g v,l1[i]?=some g→v1[i]?=some v→SR K lam g v)
 (h2:l2.length=v2.length∧∀ (i:Nat) g v,l2[i]?=some g→v2[i]?=some v→SR K lam g v):(l1++l2).length=(v1++v2).length∧∀ (i:Nat) g v,(l1++l2)[i]?=some g→(v1++v2)[i]?=some v→SR K lam g v:=by
 refine ⟨by simp [h1.1,h2.1],fun i g v hg hv=>?_⟩
 rw [List.getElem?_append] at hg hv
 by_cases hi:i<l1.length
 ·rw [if_pos hi] at hg; rw [if_pos (by rw [← h1.1]; exact hi)] at hv; exact h1.2 i g v hg hv
 ·rw [if_neg hi] at hg; rw [if_neg (by rw [← h1.1]; exact hi)] at hv
  rw [← h1.1] at hv
  exact h2.2 _ g v hg hv
theorem zvS (hr:HR ro K H) (fr:FR K lam nt e a) {t:TypeId} {x:Operand} {lo hi:Option Operand} {s:Src} {l1 l2:List Src} (ho:o.op=.slice t x lo hi none) (ht:P.underlying t=some .string)
 (hs:zbM ro x=some s) (h1:zps ro lo=some l1) (h2:zps ro hi=some l2) (hg:zaF (.slstr lo.isSome hi.isSome) ((s::(l1++l2)).map (zac e))=some g):za7 P K lam a o g:=by
 obtain ⟨q1,p1⟩:=zaa hr fr hs
 simp only [List.map_cons,List.map_append] at hg
 generalize zac e s=x1 at *
 cases x1 <;> simp only [zaF] at hg <;> try (cases hg; done)
 rename_i sb
 simp only [Option.map_eq_some_iff] at hg
 obtain ⟨⟨l,h,m⟩,hb,rfl⟩:=hg
 rw [zfO] at q1
 have hm:(none:Option Operand).map a.eval=none:=rfl
 have hbs:=zcg (P:=P) (K:=K) (lam:=lam) (Nat.le_refl sb.size) (lo:=lo.map a.eval) (hi:=hi.map a.eval) (mx:=none) (by simpa using hb)
  (by simpa using zgw (zfQ hr fr h1) (zfQ hr fr h2)) false K.w
 refine ⟨_, ?_,SR.of (.str _),fun n hn=>hn⟩
 simp [execOp,ho,q1,Instr.sliceAt,run_underlying ht,Instr.slice,hbs.1]
theorem zx4 (hr:HR ro K H) (fr:FR K lam nt e a) {t el:TypeId} {n:Nat} {x:Operand} {lo hi mx:Option Operand} {s:Src} {l1 l2 l3:List Src} (ho:o.op=.slice t x lo hi mx) (ht:P.underlying t=some (.slice el)) (hn:zaS P el=some n)
 (hs:zbM ro x=some s) (h1:zps ro lo=some l1) (h2:zps ro hi=some l2) (h3:zps ro mx=some l3) (hg:zaF (.slsl n lo.isSome hi.isSome mx.isSome) ((s::(l1++l2++l3)).map (zac e))=some g):za7 P K lam a o g:=by
 obtain ⟨q1,p1⟩:=zaa hr fr hs
 simp only [List.map_cons,List.map_append] at hg
 have hrel:=zgw (zgw (zfQ hr fr h1) (zfQ hr fr h2)) (zfQ hr fr h3)
 generalize zac e s=x1 at *
 cases x1 <;> simp only [zaF] at hg <;> try (cases hg; done)
 case nilsl =>
  simp only [Option.map_eq_some_iff] at hg
  obtain ⟨⟨l,h,m⟩,hb,rfl⟩:=hg
  rw [zeA] at q1
  have hbs:=zcg (P:=P) (K:=K) (lam:=lam) (Nat.le_refl 0) (lo:=lo.map a.eval) (hi:=hi.map a.eval) (mx:=mx.map a.eval) (by simpa using hb) (by simpa using hrel) true K.w
  obtain ⟨b1,b2,b3,b4,b5⟩:=hbs
  refine ⟨.slice none 0 0, ?_,SR.of .nilsl,fun n hn=>hn⟩
  have e1:h=0:=by omega
  have e2:l=0:=by omega
  have e3:m.getD 0=0:=by
   cases m with
   | none=>rfl
   | some m'=>have:=b4 m' rfl; simp; omega
  rw [e1,e2,e3] at b1
  simp [execOp,ho,q1,Instr.sliceAt,run_underlying ht,Instr.slice,b1,zax hn]
 case sl sz xs tag =>
  split at hg
  ·rename_i e1; subst e1
   simp only [Option.map_eq_some_iff] at hg
   obtain ⟨⟨l,h,m⟩,hb,rfl⟩:=hg
   cases hq:a.eval x <;> rw [hq] at q1 <;> try (cases q1; done)
   have q1':=q1
   cases q1 with
   | emp ad htt =>
    have hbs:=zcg (P:=P) (K:=K) (lam:=lam) (Nat.le_refl 0) (lo:=lo.map a.eval) (hi:=hi.map a.eval) (mx:=mx.map a.eval) (by simpa using hb) (by simpa using hrel) true K.w
    obtain ⟨b1,b2,b3,b4,b5⟩:=hbs
    refine ⟨_, ?_,SR.of (zsD ad htt b2 b3 b4),fun n hn=>hn⟩
    simp [execOp,ho,hq,Instr.sliceAt,run_underlying ht,Instr.slice,b1,zax hn]
   | @sl _ _ _ b off cap cv hcap hmax hsz hI hv htag =>
   have hbs:=zcg (P:=P) (K:=K) (lam:=lam) hcap (lo:=lo.map a.eval) (hi:=hi.map a.eval) (mx:=mx.map a.eval) (by simpa using hb) (by simpa using hrel) true K.w
   obtain ⟨b1,b2,b3,b4,b5⟩:=hbs
   have hcut:=zsE q1' b2 b3 b4
   refine ⟨_, ?_,SR.of hcut,fun n hn=>hn⟩
   simp [execOp,ho,hq,Instr.sliceAt,run_underlying ht,Instr.slice,b1,zax hn]
  ·cases hg
 case hsl id off len sz ag =>
  split at hg
  ·rename_i e1; subst e1
   simp only [Option.map_eq_some_iff] at hg
   obtain ⟨⟨l,h,m⟩,hb,rfl⟩:=hg
   cases hq:a.eval x <;> rw [hq] at q1 <;> try (cases q1; done)
   have q1':VR K (.hsl id off len n ag) _:=q1
   cases q1' with
   | @hsl _ _ _ _ _ b oo _ hid hh hcap hmax =>
   rename_i cap
   have hbs:=zcg (P:=P) (K:=K) (lam:=lam) hcap (lo:=lo.map a.eval) (hi:=hi.map a.eval) (mx:=mx.map a.eval) (by simpa using hb) (by simpa using hrel) true K.w
   obtain ⟨b1,b2,b3,b4,b5⟩:=hbs
   have hm1:h≤m.getD cap:=by
    cases m with
    | none=>simp; omega
    | some m'=>simp; exact (b4 m' rfl).1
   have hm2:m.getD cap≤cap:=by
    cases m with
    | none=>simp
    | some m'=>simp; have:=(b4 m' rfl).2; omega
   show za7 P K lam a o (if l<h then .hsl id (off+l * n) (h - l) n ag else .sl n [] .imm)
   obtain ⟨M,hM⟩:∃ M,m.getD cap=M:=⟨_,rfl⟩
   rw [hM] at hm1 hm2 b1
   have haddr:∃ o',(if M=l then (some ⟨b,oo,none⟩:Option Addr) else (some ⟨b,oo,none⟩:Option Addr).map (·.add (l * n)))=some ⟨b,o',none⟩∧(l<M→o'=oo+l * n):=by
    by_cases hc:M=l
    ·rw [if_pos hc]; exact ⟨oo,rfl,fun h=>by omega⟩
    ·rw [if_neg hc]; exact ⟨oo+l * n,by simp [Addr.add],fun _=>rfl⟩
   obtain ⟨o',ha1,ha2⟩:=haddr
   refine ⟨.slice (some ⟨b,o',none⟩) (h - l) (M - l), ?_, ?_, ?_⟩
   ·rw [← ha1]
    simp [execOp,ho,hq,Instr.sliceAt,run_underlying ht,Instr.slice,b1,zax hn]
   ·split
    ·rename_i hlt
     refine SR.of (.hsl hid (fun c hc=>?_) (by omega) (by omega))
     obtain ⟨h5,h6,h7⟩:=hh c hc
     refine ⟨h5,by rw [ha2 (by omega),h6], ?_⟩
     have:l * n+(M - l) * n=M * n:=by rw [← Nat.add_mul]; congr 1; omega
     have:M * n≤cap * n:=Nat.mul_le_mul hm2 (Nat.le_refl _)
     omega
    ·rename_i hlt
     have hl:l=h:=by omega
     subst hl
     rw [Nat.sub_self]
     exact SR.of (VR.sl (K:=K) (xs:=[]) (cv:=fun _ _=>.bool true) (by simp) (by omega) (fun x hx=>by cases hx) (fun i x j c hx=>by simp at hx) (fun i x j c hx=>by simp at hx) trivial)
   ·split <;> exact fun n hn=>hn
  ·cases hg
end
section
variable {P:Program} {ro:Nat} {hp:List Nat} {K:Ctx} {H:GH} {lam:Nat→Option Nat} {nt:Nat} {e:Env} {a:Act} {o:Oper} {p:Prim} {srcs:List Src} {g:GV}
theorem zsG (hr:HR ro K H) (fr:FR K lam nt e a) {x:Operand} {s:Src} (ho:o.op=.nilCheck x) (hs:zbM ro x=some s) (hg:zaF .nilchk ([s].map (zac e))=some g):za7 P K lam a o g:=by
 obtain ⟨q1,p1⟩:=zaa hr fr hs
 simp only [List.map_cons,List.map_nil] at hg
 generalize zac e s=x1 at *
 cases x1 <;> simp only [zaF] at hg <;> (try (cases hg; done)) <;> injection hg with hg <;> subst hg
 case laddr s g o =>
  obtain ⟨b,h1,h2⟩:=q1
  exact ⟨_,by simp [execOp,ho,h2],⟨b,h1,rfl⟩,p1⟩
 all_goals
  refine ⟨a.eval x, ?_,q1,p1⟩
  cases hq:a.eval x <;> rw [hq] at q1 <;> (try (cases q1; done)) <;> cases q1 <;> simp [execOp,ho,hq]
theorem zgx (hr:HR ro K H) (fr:FR K lam nt e a) {x:Operand} {i:Nat} {s:Src} (ho:o.op=.extract x i) (hs:zbM ro x=some s) (hg:zaF (.extract i) ([s].map (zac e))=some g):za7 P K lam a o g:=by
 obtain ⟨q1,p1⟩:=zaa hr fr hs
 simp only [List.map_cons,List.map_nil] at hg
 generalize zac e s=x1 at *
 cases x1 <;> simp only [zaF] at hg <;> (try (cases hg; done))
 cases hq:a.eval x <;> rw [hq] at q1 <;> try (cases q1; done)
 cases q1 with
 | tup hl h =>
 obtain ⟨v,h1,h2⟩:=CR.get (K:=K) ⟨hl,h⟩ hg
 exact ⟨v,by simp [execOp,ho,hq,Instr.extract,h1],SR.of h2,zai h2.ok⟩
theorem zfc {l:List GV} (h:oks l=true) {i:Nat} {g:GV} (hg:l[i]?=some g):g.ok=true:=by
 simp only [oks,List.all_eq_true] at h
 exact h g (List.mem_of_getElem? hg)
theorem zsH (hr:HR ro K H) (fr:FR K lam nt e a) {f:FuncId} {first captured:Array Operand} (ho:o.op=.makeFunc (.func f) first captured) (hs:zbn ro (first.toList++captured.toList)=some srcs)
 (hg:zaF (.mkfunc f first.size) (srcs.map (zac e))=some g):za7 P K lam a o g:=by
 obtain ⟨h1,h2⟩:=zei hr fr hs
 simp only [zaF] at hg
 split at hg
 ·rename_i hok
  injection hg with hg; subst hg
  have hvr:VR K (.func f ((srcs.map (zac e)).take first.size) ((srcs.map (zac e)).drop first.size)) (.func (.func f) (first.map a.eval) (captured.map a.eval)):=by
   simp only [List.length_append,Array.length_toList] at h1
   refine .func ?_ ?_ (fun i x u hx hu=>?_) (fun i y v hy hv=>?_)
   ·simp only [List.length_take,Array.size_map]; omega
   ·simp only [List.length_drop,Array.size_map]; omega
   ·rw [List.getElem?_take] at hx
    split at hx
    ·rename_i hi
     simp only [Array.getElem?_map,Option.map_eq_some_iff] at hu
     obtain ⟨z,hz,rfl⟩:=hu
     have h3:(first.toList++captured.toList)[i]?=some z:=by rw [List.getElem?_append_left (by simpa using hi)]; simpa using hz
     exact (h2 i x z hx h3).1.vr (zfc hok hx)
    ·cases hx
   ·rw [List.getElem?_drop] at hy
    simp only [Array.getElem?_map,Option.map_eq_some_iff] at hv
    obtain ⟨z,hz,rfl⟩:=hv
    have h3:(first.toList++captured.toList)[first.size+i]?=some z:=by rw [List.getElem?_append_right (by simp)]; simpa using hz
    exact (h2 _ y z hy h3).1.vr (zfc hok hy)
  exact ⟨_,by simp [execOp,ho,Instr.makeFunc],SR.of hvr,zai hvr.ok⟩
 ·cases hg
theorem zav {b:Builtin} {args:Array Operand} {ts:Array TypeId} (ho:o.op=.call { callee:=.builtin b,args,argTypes:=ts }) {r:Result Next} {w:World}
 (h:(builtin b ts o.type (args.map fun | .const _=>true | _=>false) (args.map a.eval)).run P w=r):(execOp a.eval o).run P w=r:=by
 rw [← h]
 simp only [execOp,ho,resolve,Sem.run_bind,Sem.run_pure,Result.andThen_ok,invoke]
 rfl
theorem zsI (hr:HR ro K H) (fr:FR K lam nt e a) {t:TypeId} {x:Operand} {s:Src} (ho:o.op=.call { callee:=.builtin .len,args := #[x],argTypes := #[t] }) (ht:P.underlying t=some .string)
 (hs:zbM ro x=some s) (hg:zaF .lenstr ([s].map (zac e))=some g):za7 P K lam a o g:=by
 obtain ⟨q1,p1⟩:=zaa hr fr hs
 simp only [List.map_cons,List.map_nil] at hg
 generalize zac e s=x1 at *
 cases x1 <;> simp only [zaF] at hg <;> (try (cases hg; done)) <;> injection hg with hg <;> subst hg
 rw [zfO] at q1
 exact ⟨_,zav ho (by simp [builtin,Builtin.len_,q1,run_underlying ht]; rfl),SR.of (.int _ _),fun n hn=>hn⟩
theorem zvT (hr:HR ro K H) (fr:FR K lam nt e a) {t el:TypeId} {x:Operand} {s:Src} (ho:o.op=.call { callee:=.builtin .len,args := #[x],argTypes := #[t] }) (ht:P.underlying t=some (.slice el))
 (hs:zbM ro x=some s) (hg:zaF .lensl ([s].map (zac e))=some g):za7 P K lam a o g:=by
 obtain ⟨q1,p1⟩:=zaa hr fr hs
 simp only [List.map_cons,List.map_nil] at hg
 generalize zac e s=x1 at *
 cases x1 <;> simp only [zaF] at hg <;> (try (cases hg; done)) <;> injection hg with hg <;> subst hg
 all_goals
  cases hq:a.eval x <;> rw [hq] at q1 <;> try (cases q1; done)
  cases q1 <;>
  exact ⟨_,zav ho (by simp [builtin,Builtin.len_,hq,run_underlying ht]; rfl),SR.of (.int _ _),fun n hn=>hn⟩
theorem zsJ (hr:HR ro K H) (fr:FR K lam nt e a) {t u el:TypeId} {n:Nat} {x:Operand} {s:Src} (ho:o.op=.call { callee:=.builtin .len,args := #[x],argTypes := #[t] })
 (ht:P.underlying t=some (.array n el)∨(P.underlying t=some (.pointer u)∧P.underlying u=some (.array n el)))
 (hg:zaF (.lenN n) ([s].map (zac e))=some g):za7 P K lam a o g:=by
 simp only [List.map_cons,List.map_nil,zaF,Option.some.injEq] at hg
 subst hg
 rcases ht with ht | ⟨ht,hu⟩
 ·exact ⟨_,zav ho (by simp [builtin,Builtin.len_,run_underlying ht]; rfl),SR.of (.int _ _),fun n hn=>hn⟩
 ·exact ⟨_,zav ho (by simp [builtin,Builtin.len_,run_underlying ht,run_underlying hu]; rfl),SR.of (.int _ _),fun n hn=>hn⟩
theorem zlk (hr:HR ro K H) (fr:FR K lam nt e a) {ts:Array TypeId} {x y:Operand} {mx:Bool} (ho:o.op=.call { callee:=.builtin (if mx then .max else .min),args := #[x,y],argTypes:=ts })
 (hs:zbn ro [x,y]=some srcs) (hg:zaF (.minmax mx) (srcs.map (zac e))=some g):za7 P K lam a o g:=by
 obtain ⟨s,u,h1,h2,rfl⟩:=zbj hs
 obtain ⟨q1,p1⟩:=zaa hr fr h1
 obtain ⟨q2,p2⟩:=zaa hr fr h2
 simp only [List.map_cons,List.map_nil] at hg
 generalize zac e s=x1 at *
 generalize zac e u=x2 at *
 cases x1 <;> cases x2 <;> simp only [zaF] at hg <;> (try (cases hg; done)) <;> injection hg with hg <;> subst hg
 rw [zgO] at q1 q2
 cases mx
 ·exact ⟨_,zav ho (by simp [builtin,Builtin.min_,Builtin.min2,q1,q2]),SR.of (.int _ _),fun n hn=>hn⟩
 ·exact ⟨_,zav ho (by simp [builtin,Builtin.max_,Builtin.max2,q1,q2]),SR.of (.int _ _),fun n hn=>hn⟩
theorem zcB {α β:Type} {f:α→Option β} : ∀ {l:List α} {r:List β},l.mapM f=some r→r.length=l.length∧∀ (i:Nat) x y,l[i]?=some x→r[i]?=some y→f x=some y:=by
 intro l
 induction l with
 | nil=>intro r h; simp at h; subst h; simp
 | cons x l ih =>
  intro r h
  simp only [List.mapM_cons,Option.bind_eq_bind,Option.bind_eq_some_iff,Option.pure_def,Option.some.injEq] at h
  obtain ⟨y,hy,ys,hys,rfl⟩:=h
  obtain ⟨h1,h2⟩:=ih hys
  refine ⟨by simp [h1],fun i a b ha hb=>?_⟩
  cases i with
  | zero=>simp at ha hb; subst ha hb; exact hy
  | succ i=>exact h2 i a b (by simpa using ha) (by simpa using hb)
theorem zpy (w:World):∀ (fs:List Field),(fs.all fun f=>(zaS P f.type).isSome)=true →
 (fs.mapM (m:=Sem) fun f=>do pure (f.offset,← sizeOf f.type)).run P w=.ok (fs.map fun f=>(f.offset,(zaS P f.type).getD 0)) w:=by
 intro fs
 induction fs with
 | nil=>intro _; simp
 | cons f fs ih =>
  intro h
  simp only [List.all_cons,Bool.and_eq_true] at h
  obtain ⟨n,hn⟩:=Option.isSome_iff_exists.1 h.1
  have:=ih h.2
  simp only [List.mapM_cons,Sem.run_bind,zax hn,Result.andThen_ok,Sem.run_pure,this,List.map_cons,hn,Option.getD_some]
theorem zn1 (hr:HR ro K H) (fr:FR K lam nt e a) {t:TypeId} {ps:Array (Nat × Operand)} {z:GV} {pl:List (Nat × Nat)} (ho:o.op=.build t ps) (hz:zcz P t=some z)
 (hs:zbn ro (ps.toList.map (·.2))=some srcs)
 (hk:(∃ fs,P.underlying t=some (.struct fs)∧((ps.toList.map (·.1)).mapM fun i=>(fs[i]?).bind fun f=>(zaS P f.type).map fun n=>(f.offset,n))=some pl∧(fs.toList.all fun f=>(zaS P f.type).isSome)=true) ∨
   (∃ n el k,P.underlying t=some (.array n el)∧zaS P el=some k∧pl=ps.toList.map fun p=>(p.1 * k,k)))
 (hg:zaF (.build z.cells pl) (srcs.map (zac e))=some g):za7 P K lam a o g:=by
 obtain ⟨h1,h2⟩:=zei hr fr hs
 simp only [zaF] at hg
 split at hg
 ·rename_i hok
  simp only [Bool.and_eq_true,beq_iff_eq] at hok
  simp only [Option.map_eq_some_iff] at hg
  obtain ⟨cs,hcs,rfl⟩:=hg
  -- the zero value
  simp only [zcz,Option.bind_eq_some_iff] at hz
  obtain ⟨zv,⟨i,hi,hiz⟩,hzv⟩:=hz
  have hzr:=zaP K _ _ _ hzv
  have hrunz:(zeroValue t).run P K.w=.ok zv K.w:=by simp [zeroValue,zcA hi,hiz]
  have hpl:∀ place:Nat→Option (Nat × Nat),(∀ (j:Nat) q x,pl[j]?=some q→ps.toList[j]?=some x→place x.1=some q) →
   ∃ ys,Instr.fill place zv.cells (ps.toList.map fun p=>(p.1,a.eval p.2))=some ys∧CR K cs ys:=by
   intro place hp
   refine zfb place z.cells (pl.zip (srcs.map (zac e))) cs zv.cells _ hcs hzr.cells ?_ (fun j q g' k v hq hv=>?_)
   ·simp only [List.length_zip,List.length_map] at h1 ⊢
    have:=hok.2
    simp at this
    omega
   ·rw [List.getElem?_zip_eq_some] at hq
    simp only [List.getElem?_map,Option.map_eq_some_iff,Prod.mk.injEq] at hv
    obtain ⟨x,hx,rfl,rfl⟩:=hv
    refine ⟨hp j q x hq.1 hx, ?_⟩
    have h3:(ps.toList.map (·.2))[j]?=some x.2:=by simp [List.getElem?_map,hx]
    exact (h2 j g' x.2 hq.2 h3).1.vr (zfc hok.1 hq.2)
  have hpsm:(ps.map fun (i,x)=>(i,a.eval x)).toList=ps.toList.map fun p=>(p.1,a.eval p.2):=by simp
  rcases hk with ⟨fs,hu,hm,hall⟩ | ⟨n,el,k,hu,hk,rfl⟩
  ·obtain ⟨m1,m2⟩:=zcB hm
   obtain ⟨ys,hf,hc⟩:=hpl ((fs.map fun f=>(f.offset,(zaS P f.type).getD 0))[·]?) (by
    intro j q x hq hx
    have h4:=m2 j x.1 q (by simp [List.getElem?_map,hx]) hq
    simp only [Option.bind_eq_some_iff,Option.map_eq_some_iff] at h4
    obtain ⟨f,hf,n,hn,rfl⟩:=h4
    simp [Array.getElem?_map,hf,hn])
   refine ⟨.agg ys, ?_,SR.of (.agg hc.1 hc.2),fun n hn=>hn⟩
   have hrf:=zpy (P:=P) K.w fs.toList hall
   have hrf':(fs.mapM (m:=Sem) fun f=>do pure (f.offset,← sizeOf f.type)).run P K.w=.ok (fs.map fun f=>(f.offset,(zaS P f.type).getD 0)) K.w:=by
    rw [Array.mapM_eq_mapM_toList,map_eq_pure_bind,Sem.run_bind,hrf]
    simp only [Result.andThen_ok,Sem.run_pure]
    rw [← Array.toList_map,Array.toArray_toList]
   simp only [execOp,ho,Instr.build,Sem.run_bind,hrunz,Result.andThen_ok,run_underlying hu,hrf',hpsm,hf,Sem.run_pure]
  ·obtain ⟨ys,hf,hc⟩:=hpl (fun i=>some (i * k,k)) (by
    intro j q x hq hx
    simp only [List.getElem?_map,hx,Option.map_some,Option.some.injEq] at hq
    rw [hq])
   refine ⟨.agg ys, ?_,SR.of (.agg hc.1 hc.2),fun n hn=>hn⟩
   simp only [execOp,ho,Instr.build,Sem.run_bind,hrunz,Result.andThen_ok,run_underlying hu,zax hk,hpsm,hf,Sem.run_pure]
 ·cases hg
end
end Go.Sh
