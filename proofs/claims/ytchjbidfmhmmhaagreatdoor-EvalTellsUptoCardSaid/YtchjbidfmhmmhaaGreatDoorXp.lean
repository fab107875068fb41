/- Own work: the zaM machine and what it shows, part Xp. -/
import Derived.Test.YtchjbidfmhmmhaaGreatDoorGx
set_option linter.all false
namespace Go.Proofs.YtchjbidfmhmmhaaGreatDoor
open Go.Sh
set_option maxHeartbeats 4000000
set_option maxRecDepth 100000
abbrev zcr (b:Bool):Vl:=⟨1,if b then 1 else 0,[]⟩
abbrev zaV:Vl:=⟨0,0,[]⟩
def zqk (n:Int):Vl:=⟨2,min (max n (-1099511627776)) 1099511627776,[]⟩
def zB6 (kind:Int) (a:Vl):Vl:=if kind=6 then zcr (decide (a=zaV)) else if kind=7 then zcr (!decide (a=zaV)) else if a.k≠1 then zaV else zcr (decide (a.n=0))
def zfQ (a b:Vl) (d:Bool):Vl:=if a=zcr d∨b=zcr d then zcr d else if a=zcr (!d)∧b=zcr (!d) then zcr (!d) else zaV
theorem zc1 (b:Bool) (H:GH):ecall T zgk [.bool b] H=some (.agg (vlC (zcr b)),H):=by
 apply optW.eq
 rw [zae zGR rfl (by simp [ztK]),zab]
 cases b <;> simp [ztK,zDo,zaf,zaa,vlC]
theorem zgf (n:Int) (H:GH):ecall T znR [.int .i64 n] H=some (.agg (vlC (zqk n)),H):=by
 apply optW.eq
 rw [zae zHp rfl (by simp [zuc]),zab]
 simp [zuc,zDO,zaf,zaa,vlC,zqk]
 split <;> split <;> omega
theorem zpb (a:Vl):zaC [.int .i64,.int .i64,.str] (vlC a) [.int .i64 0,.int .i64 0,.str ⟨#[]⟩]=some (decide (a=zaV)):=zaj a zaV
theorem zdq (a:Vl) (b:Bool):zaC [.int .i64,.int .i64,.str] (vlC a) (vlC (zcr b))=some (decide (a=zcr b)):=zaj a _
theorem zak (a:Vl):(vlC a).length=3:=rfl
theorem zah (a:Vl):List.take 3 (vlC a)=vlC a:=rfl
theorem zal (a:Vl):(vlC a).all GV.one=true:=rfl
theorem zay (a:Vl):zaa [GV.int .i64 0,.int .i64 0,.str ⟨#[]⟩] 0 (vlC a)=some (vlC a):=rfl
theorem zdC (a:Vl) (h):(vlC a)[0]'h=.int .i64 a.k:=rfl
theorem zdD (a:Vl) (h):(vlC a)[1]'h=.int .i64 a.n:=rfl
theorem zbq (a:Vl):(vlC a)[0]?=some (.int .i64 a.k):=rfl
theorem zbr (a:Vl):(vlC a)[1]?=some (.int .i64 a.n):=rfl
theorem zlB : [GV.int .i64 0,.int .i64 0,.str ⟨#[]⟩]=vlC zaV:=rfl
theorem zzQ (kind:Int) (a:Vl) (H:GH):ecall T zxW [.int .i64 kind,.agg (vlC a)] H=some (.agg (vlC (zB6 kind a)),H):=by
 have hb:=fun b H=>zc1 b H
 have hn:=zpb a
 apply optW.eq
 rw [zae zHg rfl (by simp [zmf]),zab]
 unfold zB6
 by_cases h6:kind=6
 ·simp [zmf,zt8,zaf,zak,zah,zal,zay,hn,h6,hb]
 ·by_cases h7:kind=7
  ·simp [zmf,zt8,zaf,zak,zah,zal,zay,hn,h7,hb]
  ·by_cases hk:a.k=1
   ·simp [zmf,zt8,zaf,zak,zah,zal,zay,zdC,zdD,zbq,zbr,hn,h6,h7,hk,hb]
   ·simp [zmf,zt8,zaf,zak,zah,zdC,zdD,zbq,zbr,hn,h6,h7,hk,zaa]
    try rfl
theorem zsu (a b:Vl) (d:Bool) (H:GH):ecall T zs9 [.agg (vlC a),.agg (vlC b),.bool d] H=some (.agg (vlC (zfQ a b d)),H):=by
 have hb1:=fun H=>zc1 d H
 have hb2:=fun H=>zc1 (!d) H
 have e1:=zdq a d
 have e2:=zdq b d
 have e3:=zdq a (!d)
 have e4:=zdq b (!d)
 have s1:=zay (zcr d)
 have s2:=zay (zcr (!d))
 apply optW.eq
 rw [zae zHh rfl (by simp [zkT]),zab]
 unfold zfQ
 generalize zcr d=y at *
 generalize zcr (!d)=z at *
 by_cases q1:a=y
 ·simp [zkT,zqY,zaf,zak,zah,zal,s1,s2,zay,hb1,hb2,zaj,q1]
 ·by_cases q2:b=y
  ·simp [zkT,zqY,zaf,zak,zah,zal,s1,s2,zay,hb1,hb2,zaj,q1,q2]
  ·by_cases q3:a=z
   ·have q5:¬ z=y:=fun h=>q1 (q3.trans h)
    by_cases q4:b=z
    ·simp [zkT,zqY,zaf,zak,zah,zal,s1,s2,zay,hb1,hb2,zaj,q1,q2,q3,q4,q5]
    ·simp [zkT,zqY,zaf,zak,zah,zal,s1,s2,zay,hb1,hb2,zaj,q1,q2,q3,q4,q5,zaa]
     try rfl
   ·simp [zkT,zqY,zaf,zak,zah,zal,s1,s2,zay,hb1,hb2,zaj,q1,q2,q3,zaa]
    try rfl
def zjP (a b:Int):Int:=IntKind.i64.wrap (a.fdiv 1048576 * b.fdiv 1048576)
def zwy (a b:Int):Int:=if zjP a b > 2097152∨zjP a b < -2097152 then (if zjP a b<0 then -1099511627776 else 1099511627776) else IntKind.i64.wrap (a * b)
theorem zno (a b:Int) (H:GH):ecall T zx4 [.int .i64 a,.int .i64 b] H=some (.agg (vlC (zqk (zwy a b))),H):=by
 have hb:=fun n H=>zgf n H
 apply optW.eq
 rw [zae zHr rfl (by simp [zue]),zab]
 simp only [zue,zDQ]
 have hh:IntKind.i64.wrap (a.fdiv 1048576 * b.fdiv 1048576)=zjP a b:=rfl
 have hs:∀ x,zhF BinOp.shr IntKind.i64 x 20=some (.int .i64 (x.fdiv 1048576)):=fun _=>rfl
 have hm:IntKind.i64.wrap (-1099511627776)=-1099511627776:=by decide
 unfold zwy
 by_cases h1:2097152<zjP a b
 ·have h3:¬ zjP a b<0:=by omega
  simp [hs,hh,h1,h3,hb,zak,zah,zal,zay]
 ·by_cases h2:zjP a b < -2097152
  ·have h3:zjP a b<0:=by omega
   simp [hs,hh,h1,h2,h3,hm,hb,zak,zah,zal,zay]
  ·simp [hs,hh,h1,h2,hb,zak,zah,zal,zay]
def zpc (kind:Int) (a b:Vl):Vl:=if a.k≠2∨b.k≠2 then zaV else if kind=16 then zqk (IntKind.i64.wrap (a.n+b.n)) else if kind=17 then zqk (IntKind.i64.wrap (a.n - b.n)) else zqk (zwy a.n b.n)
theorem zlC (kind:Int) (a b:Vl) (H:GH):ecall T zxY [.int .i64 kind,.agg (vlC a),.agg (vlC b)] H=some (.agg (vlC (zpc kind a b)),H):=by
 have hb:=fun n H=>zgf n H
 have hp:=fun n m H=>zno n m H
 apply optW.eq
 rw [zae zHj rfl (by simp [zua]),zab]
 simp only [zua,zDK]
 unfold zpc
 by_cases h1:a.k=2
 ·by_cases h2:b.k=2
  ·by_cases h3:kind=16
   ·simp [h1,h2,h3,hb,zak,zah,zal,zay,zdC,zdD,zbq,zbr]
   ·by_cases h4:kind=17
    ·simp [h1,h2,h4,hb,zak,zah,zal,zay,zdC,zdD,zbq,zbr]
    ·simp [h1,h2,h3,h4,hp,zak,zah,zal,zay,zdC,zdD,zbq,zbr]
  ·simp [h1,h2,zak,zah,zal,zdC,zdD,zbq,zbr,zaf,zaa]
   try rfl
 ·simp [h1,zak,zah,zal,zdC,zdD,zbq,zbr,zaf,zaa]
  try rfl
theorem cmp_or3 (x y z:Int) (H:GH):ecall T f_x2 [.sl 1 [.int .i64 x,.int .i64 y,.int .i64 z] .exact] H=some (.int .i64 (orL [x,y,z]),H):=by
 apply optW.eq
 rw [zae T_x2 rfl (by simp [F_x2]),zab]
 have w1:IntKind.i64.wrap 1=1:=by decide
 have w2:IntKind.i64.wrap 2=2:=by decide
 have w3:IntKind.i64.wrap 3=3:=by decide
 by_cases hx:x=0
 ·by_cases hy:y=0
  ·by_cases hz:z=0 <;> simp [F_x2,b_x2,hx,hy,hz,zao,L0_x2,gIx,w1,w2,w3,orL]
  ·simp [F_x2,b_x2,hx,hy,zao,L0_x2,gIx,w1,w2,w3,orL]
 ·simp [F_x2,b_x2,hx,zao,L0_x2,gIx,w1,w2,w3,orL]
theorem value_Compare (x y:Vl) (H:GH):ecall T f_x106 [.agg (vlC x),.agg (vlC y)] H=some (.int .i64 (zdr x y),H):=by
 apply optW.eq
 rw [zae T_x106 rfl (by simp [F_x106]),zab]
 simp [F_x106,b_x106,vlC,cmp_int,cmp_lex,zan,cmp_or3,zdr]
def zjQ (kind:Int) (a b:Vl):Vl :=
 if (kind=10∨kind=11)∧(a=zaV∨b=zaV) then zaV
 else if kind=10∨kind=11 then zcr (decide (a=b) == decide (kind=10))
 else if a.k≠b.k∨a.k<1∨3<a.k then zaV
 else if kind=12 then zcr (decide (zdr a b<0))
 else if kind=13 then zcr (decide (zdr a b≤0))
 else if kind=14 then zcr (decide (0<zdr a b))
 else zcr (decide (0≤zdr a b))
theorem zlD (kind:Int) (a b:Vl) (H:GH):ecall T zxX [.int .i64 kind,.agg (vlC a),.agg (vlC b)] H=some (.agg (vlC (zjQ kind a b)),H):=by
 have hb:=fun n H=>zc1 n H
 have hc:=fun H=>value_Compare a b H
 have s9:∀ v,zaa (vlC zaV) 0 (vlC v)=some (vlC v):=fun _=>rfl
 apply optW.eq
 rw [zae zHi rfl (by simp [zt9]),zab]
 simp only [zt9,zDJ,zlB]
 unfold zjQ
 by_cases h10:kind=10
 ·subst h10
  by_cases ha:a=zaV
  ·subst ha
   simp [zaf,zak,zah,zal,s9,zdC,zdD,zbq,zbr,zaj]
  ·by_cases hn:b=zaV
   ·subst hn
    simp [ha,zaf,zak,zah,zal,s9,zdC,zdD,zbq,zbr,zaj]
   ·simp [ha,hn,hb,zaf,zak,zah,zal,s9,zdC,zdD,zbq,zbr,zaj]
 ·by_cases h11:kind=11
  ·subst h11
   by_cases ha:a=zaV
   ·subst ha
    simp [zaf,zak,zah,zal,s9,zdC,zdD,zbq,zbr,zaj]
   ·by_cases hn:b=zaV
    ·subst hn
     simp [ha,zaf,zak,zah,zal,s9,zdC,zdD,zbq,zbr,zaj]
    ·simp [ha,hn,hb,zaf,zak,zah,zal,s9,zdC,zdD,zbq,zbr,zaj]
  ·by_cases k1:a.k=b.k
   ·by_cases k2:b.k<1
    ·simp [h10,h11,k1,k2,zaf,zak,zah,zal,s9,zdC,zdD,zbq,zbr,zaj]
    ·by_cases k3:3<b.k
     ·simp [h10,h11,k1,k2,k3,zaf,zak,zah,zal,s9,zdC,zdD,zbq,zbr,zaj]
     ·by_cases h12:kind=12
      ·simp [h12,k1,k2,k3,hb,hc,zaf,zak,zah,zal,s9,zdC,zdD,zbq,zbr,zaj]
      ·by_cases h13:kind=13
       ·simp [h13,k1,k2,k3,hb,hc,zaf,zak,zah,zal,s9,zdC,zdD,zbq,zbr,zaj]
       ·by_cases h14:kind=14
        ·simp [h14,k1,k2,k3,hb,hc,zaf,zak,zah,zal,s9,zdC,zdD,zbq,zbr,zaj]
        ·simp [h10,h11,h12,h13,h14,k1,k2,k3,hb,hc,zaf,zak,zah,zal,s9,zdC,zdD,zbq,zbr,zaj]
   ·simp [h10,h11,k1,zaf,zak,zah,zal,s9,zdC,zdD,zbq,zbr,zaj]
def wordsL:List (List UInt8):=[[77,65,84,67,72],[79,80,84,73,79,78,65,76],[87,72,69,82,69],[82,69,84,85,82,78],[68,73,83,84,73,78,67,84],[79,82,68,69,82],[66,89],[68,69,83,67],[83,75,73,80],[76,73,77,73,84],[67,82,69,65,84,69],[83,69,84],[82,69,77,79,86,69],[68,69,76,69,84,69],[65,78,68],[79,82],[78,79,84],[73,83],[78,85,76,76],[84,82,85,69],[70,65,76,83,69],[67,79,85,78,84],[83,85,77],[77,73,78],[77,65,88],[77,65,78,89]]
theorem zwz (H:GH):ecall T zx8 [] H=some (.sl 1 (wordsL.map zbB) .exact,H):=by
 apply optW.eq
 rw [zae zHx rfl (by simp [zui]),zab]
 simp [zui,zDX,zan,wordsL]
 and_intros
 all_goals rfl
theorem zsv (L:List (List UInt8)) (hL:L.length≤1000000) (v:GV) (hv:Elems 1 v (L.map zbB)) (s:List UInt8) (l0:List GV) (g0:Nat) (H0:GH) (K:GExit × St→Prop)
 (h0:zai l0 0=v) (h1:zai l0 1=.str (mkB s)) (h7:zai l0 7=.int .i64 L.length) (h8:zai l0 8=.int .i64 0)
 (hr:∀ l g (i:Nat),i<L.length→L[i]?=some s→zai l 4=.int .i64 i→K (.ret,⟨⟨l,g⟩,H0⟩))
 (he:∀ l g,s ∉ L→K (.exit 0,⟨⟨l,g⟩,H0⟩)) :
 optW (erun T (.loop zAd) ⟨⟨l0,g0⟩,H0⟩) K:=by
 refine zaN (T:=T) (n:=L.length) (A:=Unit) (fun i _=>[]) (fun i _ _ H'=>H'=H0∧s ∉ L.take i) (c:=9) (b:=0) (I:=8) (N:=7) (d:=18) rfl (by omega) (by decide) ⟨rfl,rfl⟩ (by simp) ?_ ?_ 0 () _ _ H0 (by omega) ⟨rfl,by simp⟩ (by simp) (.refl _ _ _) h8 h7
 ·intro i u l g H' hi ⟨hH,hno⟩ hh hf hI
  subst hH
  have k0:=hf.get 0 rfl h0 (by simp [hv.boxy])
  have k1:=hf.get 1 rfl h1 rfl
  obtain ⟨lt,ix,opt,get,⟨t,sv⟩,_,_⟩:=zbL (e:=zbB) hv hi (by omega)
  generalize L[i]'hi=e at opt get
  rw [sv] at k0
  have hc0:(zbB e).cells=[.str (mkB e)]:=rfl
  have hta:L.take (i+1)=L.take i++[e]:=by rw [List.take_add_one,opt]; rfl
  by_cases hq:s=e
  ·subst hq
   simp [k0,k1,hI,ix,opt,get,hc0]
   exact fun _=>hr _ _ i hi opt (by simp)
  ·simp [k0,k1,hI,ix,opt,get,hc0,hq]
   exact fun _=>by rw [hta]; simp [hno,hq]
 ·intro u l g H' ⟨hH,hno⟩ hh hf
  subst hH
  rw [List.take_length] at hno
  exact he l g hno
theorem zwA (L:List (List UInt8)) (hL:L.length≤1000000) (v:GV) (hv:Elems 1 v (L.map zbB)) (s:List UInt8) (H:GH):∃ r:Int,ecall T ztc [v,.str (mkB s)] H=some (.int .i64 r,H)∧(0≤r↔s∈L):=by
 have a1:=hv.len
 have a2:=zad hv
 have a3:=hv.ok
 simp only [List.length_map] at a1
 have goal:optW (ecall T ztc [v,.str (mkB s)] H) fun x=>∃ r:Int,x=(.int .i64 r,H)∧(0≤r↔s∈L):=by
  rw [zae zHy rfl (by simp [zuj]),zab]
  simp only [zuj,zDY]
  simp [a1,a2,a3]
  rw [zav,zap]
  refine zsv L hL v hv s _ _ _ _ (by simp [a2]) (by simp) (by simp) (by simp) ?_ ?_
  ·intro l g i hi opt h4
   simp [h4]
   exact List.mem_of_getElem? opt
  ·intro l g hno
   simp [hno]
 obtain ⟨x,hx,r,rfl,h⟩:=goal
 exact ⟨r,hx,h⟩
theorem znp (L:List (List UInt8)) (hL:L.length≤1000000) (v:GV) (hv:Elems 1 v (L.map zbB)) (s:List UInt8) (H:GH):ecall T zx7 [v,.str (mkB s)] H=some (.bool (decide (s∈L)),H):=by
 obtain ⟨r,hr,hm⟩:=zwA L hL v hv s H
 have a2:=zad hv
 have a3:=hv.ok
 apply optW.eq
 rw [zae zHw rfl (by simp [zuh]),zab]
 simp [zuh,zDW,a2,a3,hr,hm]
def zdc (s:List UInt8):Bool:=zaz s&&!decide (s∈wordsL)
theorem zjo (s:List UInt8) (hs:s.length≤9223372036854775807) (H:GH):ecall T znQ [.str (mkB s)] H=some (.bool (zdc s),H):=by
 have h1:=zdf (mkB s) (by simpa using hs) H
 have h2:=fun H=>zwz H
 have h3:=znp wordsL (by decide) (.sl 1 (wordsL.map zbB) .exact) (.sl _ _) s H
 unfold zdc
 generalize wordsL=W at *
 apply optW.eq
 rw [zae zHo rfl (by simp [zq0]),zab]
 simp at h1
 cases hn:zaz s with
 | false=>rw [hn] at h1; simp [zq0,zAR,h1]
 | true=>rw [hn] at h1; simp [zq0,zAR,h1,h2,h3]
structure Ex where
 k:Int
 v:Vl
 var:List UInt8
 prop:List UInt8
 l:Int
 r:Int
deriving DecidableEq
def exC (e:Ex):List GV:=[.int .i64 e.k,.int .i64 e.v.k,.int .i64 e.v.n,.str (mkB e.v.t),.str (mkB e.var),.str (mkB e.prop),.int .i64 e.l,.int .i64 e.r]
abbrev exG (e:Ex):GV:=.agg (exC e)
def zzR (e:Ex):Ex :=
 if e.k=1 then ⟨e.k,e.v,[],[],0,0⟩
 else if e.k=2 then ⟨e.k,zaV,e.var,[],0,0⟩
 else if e.k=3∨e.k=4 then ⟨e.k,zaV,e.var,e.prop,0,0⟩
 else if 5≤e.k∧e.k≤7 then ⟨e.k,zaV,[],[],e.l,0⟩
 else if 8≤e.k∧e.k≤18 then ⟨e.k,zaV,[],[],e.l,e.r⟩
 else ⟨e.k,zaV,[],[],0,0⟩
def okX (e:Ex) (ahead:Int):Bool :=
 if e.k=1 then zbN e.v.k e.v.n e.v.t&&(decide (e.v.k≠5)&&(decide (e.v.k≠4) || zdc e.v.t))
 else if e.k=2 then zdc e.var
 else if e.k=3∨e.k=4 then zdc e.var&&zdc e.prop
 else if 5≤e.k∧e.k≤7 then decide (0≤e.l)&&decide (e.l<ahead)
 else if 8≤e.k∧e.k≤18 then decide (0≤e.l∧0≤e.r)&&decide (e.l<ahead∧e.r<ahead)
 else false
def zgh (e:Ex) (ahead:Int):Bool:=okX e ahead&&decide (e=zzR e)
theorem zwB (x y:Ex):zaC [.int .i64,.int .i64,.int .i64,.str,.str,.str,.int .i64,.int .i64] (exC x) (exC y)=some (decide (x=y)):=by
 have h:decide (x=y)=decide (x.k=y.k∧x.v.k=y.v.k∧x.v.n=y.v.n∧x.v.t=y.v.t∧x.var=y.var∧x.prop=y.prop∧x.l=y.l∧x.r=y.r):=by
  congr 1; apply propext
  constructor
  ·rintro rfl; simp
  ·obtain ⟨k,⟨a,b,c⟩,d,e,f,g⟩:=x
   obtain ⟨k',⟨a',b',c'⟩,d',e',f',g'⟩:=y
   rintro ⟨h1,h2,h3,h4,h5,h6,h7,h8⟩
   simp_all
 rw [h]
 simp only [exC,zaC,za7,zAY]
 by_cases h1:x.k=y.k <;> by_cases h2:x.v.k=y.v.k <;> by_cases h3:x.v.n=y.v.n <;> by_cases h4:x.v.t=y.v.t <;> by_cases h5:x.var=y.var <;> by_cases h6:x.prop=y.prop <;> by_cases h7:x.l=y.l <;> by_cases h8:x.r=y.r <;> simp [h1,h2,h3,h4,h5,h6,h7,h8]
structure ExOk (e:Ex):Prop where
 t:e.v.t.length≤1073741824
 n1 : -9223372036854775808≤e.v.n
 n2:e.v.n≤9223372036854775807
 var:e.var.length≤9223372036854775807
 prop:e.prop.length≤9223372036854775807
theorem zhP (v:Vl) (ht:v.t.length≤1073741824) (h1 : -9223372036854775808≤v.n) (h2:v.n≤9223372036854775807) (H:GH):ecall T zii [.agg (vlC v)] H=some (.bool (zbN v.k v.n v.t),H):=by
 have h:=zjj v.k v.n (mkB v.t) (.inr (by simpa using ht)) h1 h2 H
 simp at h
 exact h
theorem zzS (e:Ex) (he:ExOk e) (ahead:Int) (H:GH):ecall T zxV [exG e,.int .i64 ahead] H=some (.bool (zgh e ahead),H):=by
 have hR:=fun H=>zhP e.v he.t he.n1 he.n2 H
 have hN1:=fun H=>zjo e.v.t (Nat.le_trans he.t (by omega)) H
 have hN2:=fun H=>zjo e.var he.var H
 have hN3:=fun H=>zjo e.prop he.prop H
 have hE:=zwB e (zzR e)
 apply optW.eq
 rw [zae zHd rfl (by simp [zt5]),zab]
 simp only [zt5,zDG,exG]
 unfold zgh okX
 unfold zzR at hE ⊢
 obtain ⟨k,v,var,prop,l,r⟩:=e
 obtain ⟨vk,vn,vt⟩:=v
 simp only [vlC,exC] at hR hE hN1 hN2 hN3 ⊢
 by_cases h1:k=1
 ·subst h1
  simp only [if_true,zc0] at hE ⊢
  cases q1:zbN vk vn vt with
  | false => 
   rw [q1] at hR
   simp [zaf,zaa,hR]
  | true => 
   rw [q1] at hR
   by_cases q2:vk=5
   ·subst q2
    simp [zaf,zaa,hR]
   ·by_cases q3:vk=4
    ·subst q3
     cases q4:zdc vt with
     | false=>rw [q4] at hN1; simp [zaf,zaa,hR,hN1]
     | true=>rw [q4] at hN1; simp [zaf,zaa,hR,hN1,hE]
    ·simp [zaf,zaa,hR,q2,q3,hE]
 ·by_cases h2:k=2
  ·subst h2
   simp only [if_neg h1,if_true,zc0] at hE ⊢
   cases q4:zdc var with
   | false=>rw [q4] at hN2; simp [zaf,zaa,hN2]
   | true=>rw [q4] at hN2; simp [zaf,zaa,hN2,hE]
  ·by_cases h3:k=3∨k=4
   ·simp only [if_neg h1,if_neg h2,if_pos h3,zc0] at hE ⊢
    cases q4:zdc var with
    | false => 
     rw [q4] at hN2
     rcases h3 with rfl | rfl <;> simp [zaf,zaa,hN2]
    | true => 
     rw [q4] at hN2
     cases q5:zdc prop with
     | false => 
      rw [q5] at hN3
      rcases h3 with rfl | rfl <;> simp [zaf,zaa,hN2,hN3]
     | true => 
      rw [q5] at hN3
      rcases h3 with rfl | rfl <;> simp [zaf,zaa,hN2,hN3,hE]
   ·obtain ⟨h3a,h3b⟩:=not_or.1 h3
    by_cases h5:5≤k∧k≤7
    ·simp only [if_neg h1,if_neg h2,if_neg h3,if_pos h5,zc0] at hE ⊢
     by_cases q1:0≤l
     ·by_cases q2:l<ahead
      ·simp [zaf,zaa,h1,h2,h3a,h3b,h5.1,h5.2,q1,q2,hE]
      ·simp [zaf,zaa,h1,h2,h3a,h3b,h5.1,h5.2,q1,q2]
     ·simp [zaf,zaa,h1,h2,h3a,h3b,h5.1,h5.2,q1]
    ·have h5':¬ (5≤k)∨¬ (k≤7):=by omega
     by_cases h8:8≤k∧k≤18
     ·have g7:¬ k≤7:=by omega
      have g5:5≤k:=by omega
      simp only [if_neg h1,if_neg h2,if_neg h3,if_neg h5,if_pos h8,zc0] at hE ⊢
      by_cases q1:0≤l∧0≤r
      ·have m1:0≤(if r<l then r else l):=by split <;> omega
       by_cases q2:l<ahead∧r<ahead
       ·have m2:(if l<r then r else l)<ahead:=by split <;> omega
        simp [zaf,zaa,h1,h2,h3a,h3b,g5,g7,h8.1,h8.2,q1,q2,m1,m2,hE]
       ·have m2:¬ (if l<r then r else l)<ahead:=by split <;> omega
        simp [zaf,zaa,h1,h2,h3a,h3b,g5,g7,h8.1,h8.2,q1,q2,m1,m2]
      ·have m1:¬ 0≤(if r<l then r else l):=by split <;> omega
       simp [zaf,zaa,h1,h2,h3a,h3b,g5,g7,h8.1,h8.2,q1,m1]
     ·have hn:okX ⟨k,⟨vk,vn,vt⟩,var,prop,l,r⟩ ahead=false:=by simp [okX,h1,h2,h3a,h3b,h5,h8]
      simp only [if_neg h1,if_neg h2,if_neg h3,if_neg h5,if_neg h8]
      by_cases g5:5≤k
      ·have g7:¬ k≤7:=by omega
       have g8:8≤k:=by omega
       have g18:¬ k≤18:=by omega
       simp [zaf,zaa,h1,h2,h3a,h3b,g5,g7,g8,g18]
      ·have g8:¬ 8≤k:=by omega
       simp [zaf,zaa,h1,h2,h3a,h3b,g5,g8]
def zcc (row:List Ex):Bool:=(List.range row.length).all fun i=>match row[i]? with | some e=>zgh e i | none=>true
theorem znq {row:List Ex} {i:Nat} {e:Ex} (h:row[i]?=some e) (hm:zgh e i=false):zcc row=false:=by
 have hlt:=(List.getElem?_eq_some_iff.1 h).1
 cases hr:zcc row with
 | false=>rfl
 | true =>
  have:=List.all_eq_true.1 hr i (List.mem_range.2 hlt)
  rw [h] at this
  simp only at this
  rw [hm] at this
  cases this
theorem zkz {row:List Ex} (h:∀ (i:Nat) (e:Ex),row[i]?=some e→zgh e i=true):zcc row=true:=by
 unfold zcc
 rw [List.all_eq_true]
 intro i hi
 split
 ·rename_i e he; exact h i e he
 ·rfl
theorem zsw (row:List Ex) (hL:row.length≤9223372036854775807) (hok:∀ e∈row,ExOk e) (v:GV) (hv:Elems 8 v (row.map exG)) (l0:List GV) (g0:Nat) (H0:GH) (K:GExit × St→Prop)
 (h5:zai l0 5=v) (h6:zai l0 6=.int .i64 row.length) (h7:zai l0 7=.int .i64 0)
 (hr:∀ l g,zcc row=false→zai l 2=.int .i64 1→K (.ret,⟨⟨l,g⟩,H0⟩))
 (he:∀ l g,zcc row=true→K (.exit 0,⟨⟨l,g⟩,H0⟩)) :
 optW (erun T (.loop zz5) ⟨⟨l0,g0⟩,H0⟩) K:=by
 refine zaN (T:=T) (n:=row.length) (A:=Unit) (fun i _=>[]) (fun i _ _ H'=>H'=H0∧∀ (j:Nat) (e:Ex),j<i→row[j]?=some e→zgh e j=true) (c:=8) (b:=0) (I:=7) (N:=6) (d:=16) rfl (by omega) (by decide) ⟨rfl,rfl⟩ (by simp) ?_ ?_ 0 () _ _ H0 (by omega) ⟨rfl,fun j e hj=>by omega⟩ (by simp) (.refl _ _ _) h7 h6
 ·intro i u l g H' hi ⟨hH,hyes⟩ hh hf hI
  subst hH
  have k5:=hf.get 5 rfl h5 (by simp [hv.boxy])
  obtain ⟨lt,ix,opt,get,⟨t,sv⟩,_,mem⟩:=zbL (e:=exG) hv hi (by omega)
  generalize row[i]'hi=e at opt get mem
  have hm:=fun H=>zzS e (hok e mem) i H
  rw [sv] at k5
  have hl:(exC e).length=8:=rfl
  have ht:List.take 8 (exC e)=exC e:=rfl
  have ho:(exC e).all GV.one=true:=rfl
  have hs:zaa [GV.int .i64 0,.int .i64 0,.int .i64 0,.str ⟨#[]⟩,.str ⟨#[]⟩,.str ⟨#[]⟩,.int .i64 0,.int .i64 0] 0 (exC e)=some (exC e):=rfl
  cases hb:zgh e i with
  | false =>
   rw [hb] at hm
   simp [k5,hI,ix,opt,get,hl,ht,ho,hs,hm]
   exact fun _=>hr _ _ (znq opt hb) (by simp)
  | true =>
   rw [hb] at hm
   simp [k5,hI,ix,opt,get,hl,ht,ho,hs,hm]
   intro _ j e' hj he'
   rcases Nat.lt_or_ge j i with h | h
   ·exact hyes j e' h he'
   ·have:j=i:=by omega
    subst this
    rw [opt] at he'
    injection he' with he'
    rw [← he']; exact hb
 ·intro u l g H' ⟨hH,hyes⟩ hh hf
  subst hH
  exact he l g (zkz fun i e h=>hyes i e (List.getElem?_eq_some_iff.1 h).1 h)
theorem zsx (row:List Ex) (hL:row.length≤9223372036854775807) (hok:∀ e∈row,ExOk e) (v:GV) (hv:Elems 8 v (row.map exG)) (H:GH):ecall T zxH [v] H=some (.int .i64 (if zcc row=true then 0 else 1),H):=by
 have a1:=hv.len
 have a2:=zad hv
 have a3:=hv.ok
 simp only [List.length_map] at a1
 apply optW.eq
 rw [zae zGO rfl (by simp [ztH]),zab]
 simp only [ztH,zDl]
 simp [a1,a2,a3]
 rw [zav,zap]
 refine zsw row hL hok v hv _ _ _ _ (by simp [a2]) (by simp) (by simp) ?_ ?_
 ·intro l g hno h2
  simp [h2,hno]
 ·intro l g hyes
  simp [hyes]
def zdu (xs:List Vl) (i:Int):Vl:=(xs[i.toNat]?).getD zaV
def atX (leafF:Ex→Vl) (xs:List Vl) (e:Ex):Vl :=
 if e.k<5 then leafF e
 else if e.k<8 then zB6 e.k (zdu xs e.l)
 else if e.k=8 then zfQ (zdu xs e.l) (zdu xs e.r) true
 else if e.k=9 then zfQ (zdu xs e.l) (zdu xs e.r) false
 else if e.k<16 then zjQ e.k (zdu xs e.l) (zdu xs e.r)
 else zpc e.k (zdu xs e.l) (zdu xs e.r)
theorem zB7 {e:Ex} {n:Int} (h:zgh e n=true) (hk:5≤e.k):0≤e.l∧e.l<n:=by
 simp only [zgh,Bool.and_eq_true] at h
 have h1:=h.1
 unfold okX at h1
 rw [if_neg (by omega),if_neg (by omega),if_neg (by omega)] at h1
 split at h1
 ·simpa using h1
 ·split at h1
  ·simp at h1; omega
  ·simp at h1
theorem zB8 {e:Ex} {n:Int} (h:zgh e n=true) (hk:8≤e.k):0≤e.r∧e.r<n:=by
 simp only [zgh,Bool.and_eq_true] at h
 have h1:=h.1
 unfold okX at h1
 rw [if_neg (by omega),if_neg (by omega),if_neg (by omega),if_neg (by omega)] at h1
 split at h1
 ·simp at h1; omega
 ·simp at h1
theorem zB9 (leafF:Ex→Vl) (n:Nat) (H:GH) (a b c out:GV) (xs:List Vl) (ho:H.objs[n]?=some (.cells 124 [a,b,c,out])) (hout:Elems 3 out (xs.map vlG)) (hxs:xs.length≤1000000) (e:Ex) (hm:zgh e xs.length=true)
 (hleaf:e.k<5→∀ H',H'.objs=H.objs→ecall T znP [.ptr n 0,exG e] H'=some (.agg (vlC (leafF e)),H')) :
 ecall T zxJ [.ptr n 0,exG e] H=some (.agg (vlC (atX leafF xs e)),H):=by
 have hb1:=fun k a H=>zzQ k a H
 have hb2:=fun a b d H=>zsu a b d H
 have hb3:=fun k a b H=>zlD k a b H
 have hb4:=fun k a b H=>zlC k a b H
 have hl8:(exC e).length=8:=rfl
 have ht8:List.take 8 (exC e)=exC e:=rfl
 have x0:∀ h,(exC e)[0]'h=.int .i64 e.k:=fun _=>rfl
 have x6:∀ h,(exC e)[6]'h=.int .i64 e.l:=fun _=>rfl
 have x7:∀ h,(exC e)[7]'h=.int .i64 e.r:=fun _=>rfl
 have ho1:(exC e).all GV.one=true:=rfl
 have ou:=zad hout
 have hcl:∀ v,zaJ H.objs.length H.toks.length 100 (GV.agg (vlC v))=some (.agg (vlC v)):=fun _=>rfl
 apply optW.eq
 rw [zbc zGQ rfl (by simp [ztJ]),zab]
 simp only [ztJ,zDn,exG]
 unfold atX
 by_cases h5:e.k<5
 ·have hL:=hleaf h5 H.over rfl
  simp only [exG] at hL
  simp [hl8,ht8,x0,h5,hL,zak,zah,zal,zay,hcl]
 ·obtain ⟨l1,l2⟩:=zB7 hm (by omega)
  obtain ⟨i,hi⟩:∃ i:Nat,e.l=i:=⟨e.l.toNat,by omega⟩
  have hil:i<xs.length:=by omega
  obtain ⟨lt,ix,opt,get,⟨t,sv⟩,_,mem⟩:=zbL (e:=vlG) hout hil (by omega)
  have hsa:zdu xs e.l=xs[i]:=by simp [zdu,hi,hil]
  generalize xs[i]'hil=p at opt get mem hsa
  rw [hsa]
  rw [sv] at ho
  by_cases h8:e.k<8
  ·simp [hl8,x0,x6,x7,h5,hi,ho,ix,opt,zak,zah,zal,zay,hcl,h8,hb1]
  ·obtain ⟨r1,r2⟩:=zB8 hm (by omega)
   obtain ⟨j,hj⟩:∃ j:Nat,e.r=j:=⟨e.r.toNat,by omega⟩
   have hjl:j<xs.length:=by omega
   obtain ⟨ltj,ixj,optj,getj,_,_,memj⟩:=zbL (e:=vlG) hout hjl (by omega)
   have hsb:zdu xs e.r=xs[j]:=by simp [zdu,hj,hjl]
   generalize xs[j]'hjl=q at optj getj memj hsb
   rw [hsb]
   by_cases k8:e.k=8
   ·simp [hl8,x0,x6,x7,h5,hi,ho,ix,opt,zak,zah,zal,zay,hcl,h8,hj,ixj,optj,k8,hb2]
   ·by_cases k9:e.k=9
    ·simp [hl8,x0,x6,x7,h5,hi,ho,ix,opt,zak,zah,zal,zay,hcl,h8,hj,ixj,optj,k9,hb2]
    ·by_cases k16:e.k<16
     ·simp [hl8,x0,x6,x7,h5,hi,ho,ix,opt,zak,zah,zal,zay,hcl,h8,hj,ixj,optj,k8,k9,k16,hb3]
     ·simp [hl8,x0,x6,x7,h5,hi,ho,ix,opt,zak,zah,zal,zay,hcl,h8,hj,ixj,optj,k8,k9,k16,hb4]
structure Bd where
 var:List UInt8
 v:Vl
def bdC (b:Bd):List GV:=.str (mkB b.var)::vlC b.v
abbrev bdG (b:Bd):GV:=.agg (bdC b)
structure BdOk (b:Bd):Prop where
 t:b.v.t.length≤1073741824
 n1 : -9223372036854775808≤b.v.n
 n2:b.v.n≤9223372036854775807
theorem zFG (b:Bd) (hb:BdOk b) (H:GH):ecall T zAH [bdG b] H=some (.bool (!zbN b.v.k b.v.n b.v.t),H):=by
 have hR:=fun H=>zhP b.v hb.t hb.n1 hb.n2 H
 obtain ⟨var,⟨vk,vn,vt⟩⟩:=b
 simp only [vlC] at hR
 apply optW.eq
 rw [zae zGN rfl (by simp [ztG]),zab]
 simp [ztG,zDk,bdG,bdC,vlC,hR]
theorem zwC (L:List Bd) (hL:L.length≤9223372036854775807) (v:GV) (hv:Elems 4 v (L.map bdG)) (fd:Nat) (fa fb:List GV) (p:Bd→Bool) (l0:List GV) (g0:Nat) (H0:GH) (K:GExit × St→Prop)
 (hcall:∀ e∈L,ecall T fd (fa++[bdG e]++fb) H0=some (.bool (p e),H0))
 (h0:zai l0 0=v) (h1:zai l0 1=.func fd fa fb) (h7:zai l0 7=.int .i64 L.length) (h8:zai l0 8=.int .i64 0)
 (he:∀ l g,(∀ e∈L,p e=false)→K (.exit 0,⟨⟨l,g⟩,H0⟩))
 (hr:∀ l g (i:Nat) e,L[i]?=some e→p e=true→(∀ x∈L.take i,p x=false)→zai l 4=.int .i64 i→K (.ret,⟨⟨l,g⟩,H0⟩)) :
 optW (erun T (.loop zAa) ⟨⟨l0,g0⟩,H0⟩) K:=by
 refine zaN (T:=T) (n:=L.length) (A:=Unit) (fun _ _=>[]) (fun i _ _ H'=>H'=H0∧∀ x∈L.take i,p x=false) (c:=9) (b:=0) (I:=8) (N:=7) (d:=18) rfl (by omega) (by decide) ⟨rfl,rfl⟩ (by simp) ?_ ?_ 0 () _ _ H0 (by omega) ⟨rfl,by simp⟩ (by simp) (.refl _ _ _) h8 h7
 ·intro i a l g H' hi ⟨hH,hall⟩ hh hf hI
  subst hH
  have q0:=hf.get 0 rfl h0 (by simp [hv.boxy])
  have q1:=hf.get 1 rfl h1 (by simp [GV.boxy])
  obtain ⟨lt,ix,opt,get,⟨t,sv⟩,_,mem⟩:=zbL (e:=bdG) hv hi (by omega)
  generalize L[i]'hi=e at opt get mem
  rw [sv] at q0
  have hc:=hcall e mem
  have hl:(bdC e).length=4:=rfl
  have ht:List.take 4 (bdC e)=bdC e:=rfl
  simp only [bdG,List.append_assoc,List.cons_append,List.nil_append] at hc
  have htake:L.take (i+1)=L.take i++[e]:=by rw [List.take_add_one,opt]; rfl
  cases hp:p e with
  | true =>
   rw [hp] at hc
   simp [q0,q1,hI,ix,opt,get,hc,hl,ht]
   exact fun _=>hr _ _ i e opt hp hall (by simp)
  | false =>
   rw [hp] at hc
   simp [q0,q1,hI,ix,opt,get,hc,hl,ht]
   intro _ x hx
   rw [htake] at hx
   rcases List.mem_append.1 hx with hx | hx
   ·exact hall x hx
   ·rw [List.mem_singleton] at hx; subst hx; exact hp
 ·intro a l g H' ⟨hH,hall⟩ hh hf
  subst hH
  rw [List.take_length] at hall
  exact he l g hall
theorem zIg (L:List Bd) (hL:L.length≤9223372036854775807) (v:GV) (hv:Elems 4 v (L.map bdG)) (fd:Nat) (fa fb:List GV) (p:Bd→Bool) (H:GH)
 (hcall:∀ e∈L,ecall T fd (fa++[bdG e]++fb) H=some (.bool (p e),H)) (hok:(GV.func fd fa fb).ok=true) :
 ∃ r:Int,ecall T zqL [v,.func fd fa fb] H=some (.int .i64 r,H) ∧
  ((r=-1∧∀ e∈L,p e=false)∨∃ (i:Nat) (e:Bd),r=i∧L[i]?=some e∧p e=true∧∀ x∈L.take i,p x=false):=by
 have a1:=hv.len
 have a2:=zad hv
 have a3:=hv.ok
 simp only [List.length_map] at a1
 have goal:optW (ecall T zqL [v,.func fd fa fb] H) fun q=>∃ r:Int,q=(.int .i64 r,H) ∧
  ((r=-1∧∀ e∈L,p e=false)∨∃ (i:Nat) (e:Bd),r=i∧L[i]?=some e∧p e=true∧∀ x∈L.take i,p x=false):=by
  rw [zae zHe rfl (by simp [zt6,a3,hok]),zab]
  simp only [zt6,zDH]
  simp [a1,a2,a3]
  rw [zav,zap]
  refine zwC L hL v hv fd fa fb p _ _ _ _ hcall (by simp [a2]) (by simp) (by simp) (by simp) ?_ ?_
  ·intro l g hno
   simp
   exact hno
  ·intro l g i e opt hp hall h4
   simp [h4]
   exact ⟨i,rfl,e,opt,hp,hall⟩
 obtain ⟨q,hq,r,rfl,h⟩:=goal
 exact ⟨r,hq,h⟩
theorem zwD (L:List Bd) (hL:L.length≤9223372036854775807) (v:GV) (hv:Elems 4 v (L.map bdG)) (hok:∀ b∈L,BdOk b) (H:GH) :
 ecall T zxI [v,.func 64 [] []] H=some (.bool (L.any fun b=>!zbN b.v.k b.v.n b.v.t),H):=by
 obtain ⟨r,hr,hc⟩:=zIg L hL v hv 64 [] [] (fun b=>!zbN b.v.k b.v.n b.v.t) H (fun e he=>zFG e (hok e he) H) rfl
 have a2:=zad hv
 have a3:=hv.ok
 have hd:decide (0≤r)=L.any fun b=>!zbN b.v.k b.v.n b.v.t:=by
  rcases hc with ⟨rfl,h⟩ | ⟨i,e,rfl,opt,hp,_⟩
  ·have:(L.any fun b=>!zbN b.v.k b.v.n b.v.t)=false:=by
    rw [List.any_eq_false]; intro x hx; rw [h x hx]; simp
   rw [this]; rfl
  ·have:(L.any fun b=>!zbN b.v.k b.v.n b.v.t)=true:=List.any_eq_true.2 ⟨e,List.mem_of_getElem? opt,hp⟩
   rw [this]; simp
 rw [← hd]
 apply optW.eq
 rw [zae zGP rfl (by simp [ztI]),zab]
 simp [ztI,zDm,a2,a3,hr]
end Go.Proofs.YtchjbidfmhmmhaaGreatDoor
