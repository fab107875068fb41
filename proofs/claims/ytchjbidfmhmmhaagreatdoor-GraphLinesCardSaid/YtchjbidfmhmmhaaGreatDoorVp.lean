/- Own work: the zaO machine and what it shows, part Vp. -/
import Derived.Lib.Split
import Derived.Lib.AtoiAll
import Derived.Lib.ItoaNum
import Derived.Test.YtchjbidfmhmmhaaGreatDoorShA
import Derived.Lib.IndexMore
import Derived.Lib.Join
import Derived.Test.YtchjbidfmhmmhaaGreatDoorShH
set_option linter.all false
namespace Go.Sh
open Go
def zb3 (c:UInt8):List UInt8→List (List UInt8)
 | []=>[[]]
 | b::l=>if b=c then []::zb3 c l else match zb3 c l with
  | []=>[[b]]
  | p::ps=>(b::p)::ps
theorem zc7 {s:List UInt8} {c:UInt8} {i:Nat} (h:Lib.index s [c]=i):Lib.split s [c]=s.take i::Lib.split (s.drop (i+1)) [c]:=by
 have hm:¬ (Lib.index s [c] == -1)=true:=fun e=>by have:=beq_iff_eq.1 e; omega
 have e:(Lib.index s [c]).toNat=i:=by omega
 unfold Lib.split
 rw [Lib.count_hit (by simp) h,Nat.add_comm 1,Lib.splitK,if_neg hm,e]
 simp
theorem zcH {s:List UInt8} {c:UInt8} (h:Lib.index s [c]=-1):Lib.split s [c]=[s]:=by
 unfold Lib.split
 rw [Lib.count_miss h]; rfl
theorem zng (c:UInt8):∀ s:List UInt8,Lib.split s [c]=zb3 c s
 | []=>by rw [zcH (by simp [Lib.index])]; rfl
 | b::l=>by
  have ih:=zng c l
  unfold zb3
  by_cases hb:b=c
  ·subst hb
   rw [if_pos rfl,zc7 (i:=0) (by simp [Lib.index,List.isPrefixOf])]
   simp [ih]
  ·rw [if_neg hb]
   have hp:List.isPrefixOf [c] (b::l)=false:=by simp [List.isPrefixOf]; exact fun h=>hb h.symm
   by_cases hi:Lib.index l [c]=-1
   ·rw [zcH (by simp [Lib.index,hp,hi]),← ih,zcH hi]
   ·have hge:=Lib.index_ge l [c]
    obtain ⟨i,hi'⟩:∃ i:Nat,Lib.index l [c]=i:=⟨(Lib.index l [c]).toNat,by omega⟩
    rw [zc7 (i:=i+1) (by simp [Lib.index,hp,hi']),← ih,zc7 hi']
    simp
def zda (c:UInt8):Bool:=decide (97≤c.toNat∧c.toNat≤122∨65≤c.toNat∧c.toNat≤90)
def zeh (c:UInt8):Bool:=zda c || decide (48≤c.toNat∧c.toNat≤57∨c.toNat=95)
def zaF (l:List UInt8):Bool:=decide (1≤l.length∧l.length≤16)&&(match l with | []=>false | c::_=>zda c)&&l.all zeh
def zky (l:List UInt8):Bool:=l.all (fun c=>decide (32≤c.toNat∧c.toNat≤126))&&decide (l.length≤64)
def zf4 (l:List UInt8):Option (List UInt8 × List UInt8 × List UInt8):=match zb3 62 l with
 | [a,b,c]=>if zaF a&&zaF b&&zaF c then some (a,b,c) else none
 | _=>none
def zdS (k n:Int) (l:List UInt8):Bool :=
 if k=0 then decide (n=0∧l=[])
 else if k=1 then decide ((n=0∨n=1)∧l=[])
 else if k=2 then decide (-1099511627776≤n∧n≤1099511627776∧l=[])
 else if k=3 then decide (n=0)&&zky l
 else if k=4 then decide (n=0)&&zaF l
 else if k=5 then decide (n=0)&&(zf4 l).isSome
 else false
def zkz:List UInt8→List UInt8
 | []=>[]
 | c::l=>if c=39∨c=92 then 92::c::zkz l else c::zkz l
def zji (k n:Int) (l:List UInt8):List UInt8 :=
 if k=0 then [110,117,108,108]
 else if k=1 then if n=1 then [116,114,117,101] else [102,97,108,115,101]
 else if k=2 then Lib.itoa n
 else if k=3 then 39::(zkz l++[39])
 else if k=4 then 40::(l++[41])
 else 91::(l++[93])
def zzB (k n:Int) (l:List UInt8):List UInt8:=if zdS k n l then zji k n l else []
theorem dec_ne (u:Nat):Lib.decDigits u≠[]:=by
 intro h
 have:=Lib.decDigits_length u
 have h2:=Lib.nDigits_pos u
 rw [h] at this; simp at this; omega
theorem zhr:∀ (k u:Nat),1≤k→u<10 ^ k→Lib.nDigits u≤k
 | 0,_,h,_=>by omega
 | 1,u,_,h=>by rw [Lib.nDigits_small (by simpa using h)]; exact Nat.le_refl _
 | k+2,u,_,h=>by
  by_cases hu:u<10
  ·rw [Lib.nDigits_small hu]; omega
  ·rw [Lib.nDigits_big hu]
   have:=zhr (k+1) (u / 10) (by omega) (by rw [Nat.pow_succ] at h; omega)
   omega
theorem zy3 (n:Int):Lib.itoa n=if n<0∧-10<n then [45,UInt8.ofNat (48+n.natAbs)] else if n<0 then Lib.itoa (n.tdiv 10)++[UInt8.ofNat (48+(n.tmod 10).natAbs)] else if n<10 then [UInt8.ofNat (48+n.natAbs)] else Lib.itoa (n.tdiv 10)++[UInt8.ofNat (48+(n.tmod 10).natAbs)]:=by
 by_cases h1:n<0
 ·by_cases h2 : -10<n
  ·rw [if_pos ⟨h1,h2⟩]
   unfold Lib.itoa
   rw [if_pos h1,Lib.decDigits,dif_pos (by omega)]
  ·rw [if_neg (by omega),if_pos h1]
   have hq:n.tdiv 10=-((n.natAbs / 10:Nat):Int):=by
    obtain ⟨m,rfl⟩:∃ m:Nat,n=-(m:Int):=⟨n.natAbs,by omega⟩
    rw [Int.neg_tdiv]; simp
   have hr:(n.tmod 10).natAbs=n.natAbs % 10:=by rw [Int.natAbs_tmod]; rfl
   rw [hr]
   unfold Lib.itoa
   rw [if_pos h1,if_pos (by rw [hq]; omega),Lib.decDigits,dif_neg (by omega)]
   have:(n.tdiv 10).natAbs=n.natAbs / 10:=by rw [hq]; omega
   rw [this]; rfl
 ·rw [if_neg (by omega),if_neg h1]
  by_cases h2:n<10
  ·rw [if_pos h2]
   unfold Lib.itoa
   rw [if_neg h1,Lib.decDigits,dif_pos (by omega)]
   have:n.toNat=n.natAbs:=by omega
   rw [this]
  ·rw [if_neg h2]
   have hq:n.tdiv 10=((n.toNat / 10:Nat):Int):=by
    obtain ⟨m,rfl⟩:∃ m:Nat,n=(m:Int):=⟨n.toNat,by omega⟩
    simp
   have hr:(n.tmod 10).natAbs=n.toNat % 10:=by
    rw [Int.natAbs_tmod]
    have:n.natAbs=n.toNat:=by omega
    rw [this]; rfl
   rw [hr]
   unfold Lib.itoa
   rw [if_neg h1,if_neg (by rw [hq]; omega),Lib.decDigits,dif_neg (by omega)]
   have:(n.tdiv 10).toNat=n.toNat / 10:=by rw [hq]; omega
   rw [this]
def zGt:List UInt8→List UInt8
 | c::d::l=>if c=92 then d::zGt l else c::zGt (d::l)
 | _=>[]
def mid (l:List UInt8):List UInt8:=(l.drop 1).take (l.length - 2)
def zGu (l:List UInt8):Int:=numCase (Lib.atoiAll l) (fun v=>v) 0 (Lib.atoiSat l)
def zzC (l:List UInt8):Int × Int × List UInt8 :=
 if l=[116,114,117,101] then (1,1,[])
 else if l=[102,97,108,115,101] then (1,0,[])
 else if l=[110,117,108,108]∨l=[] then (0,0,[])
 else if 1<l.length∧l.head?=some 39 then (3,0,zGt (l.drop 1))
 else if 1<l.length∧l.head?=some 40 then (4,0,mid l)
 else if 1<l.length∧l.head?=some 91 then (5,0,mid l)
 else (2,zGu l,[])
def zG4 (v:Int × Int × List UInt8):List UInt8:=zzB v.1 v.2.1 v.2.2
def zEd (l:List UInt8):Option (Int × Int × List UInt8):=if l≠[]∧zG4 (zzC l)=l then some (zzC l) else none
theorem zf5 {k n:Int} {l:List UInt8} (h:zdS k n l=true) :
 (k=0∧n=0∧l=[])∨(k=1∧n=0∧l=[])∨(k=1∧n=1∧l=[])∨(k=2∧-1099511627776≤n∧n≤1099511627776∧l=[])∨(k=3∧n=0)∨(k=4∧n=0)∨(k=5∧n=0):=by
 unfold zdS at h
 split at h
 ·simp at h; simp [*]
 ·split at h
  ·simp at h
   rcases h with ⟨h | h,h'⟩
   ·simp [*]
   ·simp [*]
  ·split at h
   ·simp at h; simp [*]
   ·split at h
    ·simp at h; simp [*]
    ·split at h
     ·simp at h; simp [*]
     ·split at h
      ·simp at h; simp [*]
      ·cases h
def w1 (l:List UInt8):List UInt8:=(Lib.cut l [32]).1
def r1 (l:List UInt8):List UInt8:=(Lib.cut l [32]).2.1
def zG5:List (List UInt8):=[[],[97,100,100],[114,101,109,111,118,101],[115,101,116],[99,108,101,97,114]]
def zG6:List (List UInt8):=[[],[110,111,100,101],[108,97,98,101,108],[101,100,103,101],[112,114,111,112],[116,114,97,105,116]]
def zGJ (L:List (List UInt8)) (k:Int):List UInt8:=L.getD k.toNat []
structure Chg where
 op:Int
 ek:Int
 a:List UInt8
 b:List UInt8
 c:List UInt8
 d:List UInt8
 vk:Int
 vn:Int
 vt:List UInt8
def Chg.zero:Chg:=⟨0,0,[],[],[],[],0,0,[]⟩
def zbu (k:Int) (a b c d:List UInt8):Bool :=
 if k=1 then zaF a&&decide (b=[]∧c=[]∧d=[])
 else if k=2∨k=4 then zaF a&&zaF d&&decide (b=[]∧c=[])
 else if k=3 then zaF a&&zaF b&&zaF c&&decide (d=[])
 else if k=5 then zaF a&&zaF b&&zaF c&&zaF d
 else false
def Chg.none (x:Chg):Bool:=decide (x.vk=0∧x.vn=0∧x.vt=[])
def zEe (k:Int) (a b c d:List UInt8):List (List UInt8):=if k=1 then [a] else if k=3 then [a,c,b] else if k=5 then [a,c,b,d] else [a,d]
def Chg.text (x:Chg):List UInt8:=Lib.join (zGJ zG5 x.op::zGJ zG6 x.ek::(zEe x.ek x.a x.b x.c x.d++(if x.none then [] else [zzB x.vk x.vn x.vt]))) [32]
def Chg.of (op ek:Int) (p:List UInt8 × List UInt8 × List UInt8 × List UInt8 × List UInt8):Chg :=
 let v:=if op=3 then (zEd p.2.2.2.2).getD (0,0,[]) else (0,0,[])
 ⟨op,ek,p.1,p.2.1,p.2.2.1,p.2.2.2.1,v.1,v.2.1,v.2.2⟩
theorem zjd {k:Int} {a b c d:List UInt8} (h:zbu k a b c d=true):k=1∨k=2∨k=3∨k=4∨k=5:=by
 unfold zbu at h
 split at h
 ·omega
 ·split at h
  ·omega
  ·split at h
   ·omega
   ·split at h
    ·omega
    ·cases h
structure Lk where
 f:List UInt8
 t:List UInt8
 y:List UInt8
 deriving DecidableEq
instance:DecidableEq El:=fun x y =>
 if h:elK x=elK y then .isTrue (zvZ h) else .isFalse fun e=>h (e ▸ rfl)
abbrev zaD (a:List UInt8):El:=⟨1,a,[],[],[]⟩
abbrev zbr (x:Lk):El:=⟨3,x.f,x.t,x.y,[]⟩
abbrev zbQ (e:El):Lk:=⟨e.a,e.b,e.c⟩
def zar (e:El):El:=if e.k=5 then zbr (zbQ e) else zaD e.a
def zfJ {α β:Type} [DecidableEq α] (f:α→β) (a:α) (b:β):α→β:=fun x=>if x=a then b else f x
structure Vw where
 nodes:List (List UInt8)
 links:List Lk
 labels:List UInt8→List (List UInt8)
 values:El→List Vl
 names:El→List (List UInt8)
 there:El→Bool
def Vw.none:Vw:=⟨[],[],fun _=>[],fun _=>[],fun _=>[],fun _=>false⟩
def zje (vals:El→List Vl) (w:Vw) (e:El):Vw :=
 if e.k=1 then { w with there:=zfJ w.there e true,nodes:=w.nodes++[e.a] }
 else if e.k=2 then if w.there (zaD e.a) then { w with labels:=zfJ w.labels e.a (w.labels e.a++[e.d]) } else w
 else if e.k=3 then if w.there (zaD e.a)&&w.there (zaD e.b) then { w with there:=zfJ w.there e true,links:=w.links++[zbQ e] } else w
 else if e.k=4∨e.k=5 then if w.there (zar e) then { w with values:=zfJ w.values e (vals e),names:=zfJ w.names (zar e) (w.names (zar e)++[e.d]) } else w
 else w
def zel (vals:El→List Vl) (G:List El):Vw:=G.foldl (zje vals) .none
def zaS (G:List El) (x:El):Bool:=decide (x∈G)&&(decide (x.k=1) || (decide (x.k=3)&&(decide (zaD x.a∈G)&&decide (zaD x.b∈G))))
def zaG (vals:El→List Vl) (G A:List El):Vw where
 nodes:=(A.filter fun e=>decide (e.k=1)).map (·.a)
 links:=(A.filter fun e=>decide (e.k=3)&&zaS G e).map zbQ
 labels:=fun key=>(A.filter fun e=>decide (e.k=2∧e.a=key)&&zaS G (zaD key)).map (·.d)
 values:=fun x=>if decide (x∈A)&&(decide (x.k=4∨x.k=5)&&zaS G (zar x)) then vals x else []
 names:=fun o=>(A.filter fun e=>decide ((e.k=4∨e.k=5)∧zar e=o)&&zaS G o).map (·.d)
 there:=fun x=>decide (x∈A)&&zaS G x
theorem Vw.ext' {a b:Vw} (h1:a.nodes=b.nodes) (h2:a.links=b.links) (h3:a.labels=b.labels) (h4:a.values=b.values) (h5:a.names=b.names) (h6:a.there=b.there):a=b:=by
 cases a; cases b; simp only [Vw.mk.injEq] at *; exact ⟨h1,h2,h3,h4,h5,h6⟩
theorem zy4 {x y:El} (h:zdO x y<0):x.k≤y.k:=by
 rcases Int.lt_or_le y.k x.k with h' | h'
 ·have:zdt x.k y.k=1:=by unfold zdt; rw [if_neg (by omega),if_pos h']
  simp [zdO,orL,this] at h
 ·exact h'
theorem zEf {A B:List El} {e:El} (hs:(A++e::B).Pairwise fun a b=>zdO a b<0) {x:El} (hk:x.k<e.k):decide (x∈A)=decide (x∈A++e::B):=by
 rw [decide_eq_decide]
 refine ⟨fun h=>List.mem_append_left _ h,fun h=>?_⟩
 rcases List.mem_append.1 h with h | h
 ·exact h
 ·exfalso
  rw [List.pairwise_append] at hs
  rcases List.mem_cons.1 h with rfl | h
  ·omega
  ·have:=zy4 ((List.pairwise_cons.1 hs.2.1).1 x h); omega
theorem zwk (vals:El→List Vl) {G A B:List El} {e:El} (hG:G=A++e::B) (hs:G.Pairwise fun a b=>zdO a b<0) :
 zje vals (zaG vals G A) e=zaG vals G (A++[e]):=by
 have hs':=hs
 rw [hG] at hs'
 have low:∀ x:El,x.k<e.k→decide (x∈A)=decide (x∈G):=fun x hk=>by rw [hG]; exact zEf hs' hk
 have heA:e ∉ A:=fun h=>by
  have:=(List.pairwise_append.1 hs').2.2 e h e List.mem_cons_self
  rw [ordE_ok.self] at this
  omega
 have heG:e∈G:=by rw [hG]; simp
 have thn:∀ a,1<e.k→(zaG vals G A).there (zaD a)=zaS G (zaD a):=fun a hk=>by
  simp only [zaG,low (zaD a) hk,zaS]
  cases decide (zaD a∈G) <;> rfl
 have mem:∀ x:El,decide (x∈A++[e])=(decide (x∈A) || decide (x=e)):=fun x=>by simp [List.mem_append]
 by_cases k1:e.k=1
 ·have hth:zaS G e=true:=by simp [zaS,heG,k1]
  rw [zje,if_pos k1]
  apply Vw.ext'
  ·simp [zaG,List.filter_append,List.filter_cons,k1]
  ·simp [zaG,List.filter_append,List.filter_cons,k1]
  ·funext key; simp [zaG,List.filter_append,List.filter_cons,k1]
  ·funext x
   simp only [zaG,mem]
   by_cases hx:x=e
   ·subst hx; simp [k1]
   ·simp [hx]
  ·funext o; simp [zaG,List.filter_append,List.filter_cons,k1]
  ·funext x
   simp only [zaG,mem,zfJ]
   by_cases hx:x=e
   ·subst hx; simp [hth]
   ·simp [hx]
 by_cases k2:e.k=2
 ·rw [zje,if_neg k1,if_pos k2,thn e.a (by omega)]
  have hn:∀ x,(decide (x∈A++[e])&&zaS G x)=(decide (x∈A)&&zaS G x):=fun x=>by
   rw [mem]
   by_cases hx:x=e
   ·subst hx; simp [zaS,k2]
   ·simp [hx]
  have hv:∀ x:El,(decide (x∈A++[e])&&(decide (x.k=4∨x.k=5)&&zaS G (zar x)))=(decide (x∈A)&&(decide (x.k=4∨x.k=5)&&zaS G (zar x))):=fun x=>by
   rw [mem]
   by_cases hx:x=e
   ·subst hx; simp [k2]
   ·simp [hx]
  by_cases ht:zaS G (zaD e.a)=true
  ·rw [if_pos ht]
   apply Vw.ext'
   ·simp [zaG,List.filter_append,List.filter_cons,k2]
   ·simp [zaG,List.filter_append,List.filter_cons,k2]
   ·funext key
    simp only [zaG,zfJ,List.filter_append,List.filter_cons,List.filter_nil,k2,List.map_append]
    by_cases hk:key=e.a
    ·subst hk; simp [ht]
    ·have hk':¬ e.a=key:=fun h=>hk h.symm
     simp [hk,hk']
   ·funext x; simp only [zaG,hv]
   ·funext o; simp [zaG,List.filter_append,List.filter_cons,k2]
   ·funext x; simp only [zaG,hn]
  ·rw [if_neg ht]
   have ht:zaS G (zaD e.a)=false:=by simpa using ht
   apply Vw.ext'
   ·simp [zaG,List.filter_append,List.filter_cons,k2]
   ·simp [zaG,List.filter_append,List.filter_cons,k2]
   ·funext key
    simp only [zaG,List.filter_append,List.filter_cons,List.filter_nil,k2,List.map_append]
    by_cases hk:e.a=key
    ·subst hk; simp [ht]
    ·simp [hk]
   ·funext x; simp only [zaG,hv]
   ·funext o; simp [zaG,List.filter_append,List.filter_cons,k2]
   ·funext x; simp only [zaG,hn]
 by_cases k3:e.k=3
 ·rw [zje,if_neg k1,if_neg k2,if_pos k3,thn e.a (by omega),thn e.b (by omega)]
  have hv:∀ x:El,(decide (x∈A++[e])&&(decide (x.k=4∨x.k=5)&&zaS G (zar x)))=(decide (x∈A)&&(decide (x.k=4∨x.k=5)&&zaS G (zar x))):=fun x=>by
   rw [mem]
   by_cases hx:x=e
   ·subst hx; simp [k3]
   ·simp [hx]
  have hth:zaS G e=(zaS G (zaD e.a)&&zaS G (zaD e.b)):=by simp [zaS,heG,k3]
  by_cases ht:(zaS G (zaD e.a)&&zaS G (zaD e.b))=true
  ·rw [if_pos ht]
   rw [ht] at hth
   apply Vw.ext'
   ·simp [zaG,List.filter_append,List.filter_cons,k3]
   ·simp [zaG,List.filter_append,List.filter_cons,k3,hth]
   ·funext key; simp [zaG,List.filter_append,List.filter_cons,k3]
   ·funext x; simp only [zaG,hv]
   ·funext o; simp [zaG,List.filter_append,List.filter_cons,k3]
   ·funext x
    simp only [zaG,mem,zfJ]
    by_cases hx:x=e
    ·subst hx; simp [hth]
    ·simp [hx]
  ·rw [if_neg ht]
   have ht:(zaS G (zaD e.a)&&zaS G (zaD e.b))=false:=by simpa using ht
   rw [ht] at hth
   apply Vw.ext'
   ·simp [zaG,List.filter_append,List.filter_cons,k3]
   ·simp [zaG,List.filter_append,List.filter_cons,k3,hth]
   ·funext key; simp [zaG,List.filter_append,List.filter_cons,k3]
   ·funext x; simp only [zaG,hv]
   ·funext o; simp [zaG,List.filter_append,List.filter_cons,k3]
   ·funext x
    simp only [zaG,mem]
    by_cases hx:x=e
    ·subst hx; simp [hth]
    ·simp [hx]
 by_cases k4:e.k=4∨e.k=5
 ·rw [zje,if_neg k1,if_neg k2,if_neg k3,if_pos k4]
  have ow:(zaG vals G A).there (zar e)=zaS G (zar e):=by
   rcases k4 with k | k
   ·have:zar e=zaD e.a:=by simp [zar,k]
    rw [this]; exact thn _ (by omega)
   ·have:zar e=zbr (zbQ e):=by simp [zar,k]
    rw [this]
    simp only [zaG,low (zbr (zbQ e)) (show (3:Int)<e.k by omega),zaS]
    cases decide (zbr (zbQ e)∈G) <;> rfl
  have hn:∀ x,(decide (x∈A++[e])&&zaS G x)=(decide (x∈A)&&zaS G x):=fun x=>by
   rw [mem]
   by_cases hx:x=e
   ·subst hx; simp [zaS,k1,k3]
   ·simp [hx]
  rw [ow]
  by_cases ht:zaS G (zar e)=true
  ·rw [if_pos ht]
   apply Vw.ext'
   ·simp [zaG,List.filter_append,List.filter_cons,k1]
   ·simp [zaG,List.filter_append,List.filter_cons,k3]
   ·funext key; simp [zaG,List.filter_append,List.filter_cons,k2]
   ·funext x
    simp only [zaG,mem,zfJ]
    by_cases hx:x=e
    ·subst hx; simp [ht,k4]
    ·simp [hx]
   ·funext o
    simp only [zaG,zfJ,List.filter_append,List.filter_cons,List.filter_nil,List.map_append]
    by_cases hk:o=zar e
    ·subst hk; simp [ht,k4]
    ·have hk':¬ zar e=o:=fun h=>hk h.symm
     simp [hk,hk']
   ·funext x; simp only [zaG,hn]
  ·rw [if_neg ht]
   have ht:zaS G (zar e)=false:=by simpa using ht
   apply Vw.ext'
   ·simp [zaG,List.filter_append,List.filter_cons,k1]
   ·simp [zaG,List.filter_append,List.filter_cons,k3]
   ·funext key; simp [zaG,List.filter_append,List.filter_cons,k2]
   ·funext x
    simp only [zaG,mem]
    by_cases hx:x=e
    ·subst hx; simp [ht]
    ·simp [hx]
   ·funext o
    simp only [zaG,List.filter_append,List.filter_cons,List.filter_nil,List.map_append]
    by_cases hk:zar e=o
    ·subst hk; simp [ht]
    ·simp [hk]
   ·funext x; simp only [zaG,hn]
 ·rw [zje,if_neg k1,if_neg k2,if_neg k3,if_neg k4]
  have hn:∀ x,(decide (x∈A++[e])&&zaS G x)=(decide (x∈A)&&zaS G x):=fun x=>by
   rw [mem]
   by_cases hx:x=e
   ·subst hx; simp [zaS,k1,k3]
   ·simp [hx]
  apply Vw.ext'
  ·simp [zaG,List.filter_append,List.filter_cons,k1]
  ·simp [zaG,List.filter_append,List.filter_cons,k3]
  ·funext key; simp [zaG,List.filter_append,List.filter_cons,k2]
  ·funext x
   simp only [zaG,mem]
   by_cases hx:x=e
   ·subst hx; simp [k4]
   ·simp [hx]
  ·funext o; simp [zaG,List.filter_append,List.filter_cons,k4]
  ·funext x; simp only [zaG,hn]
theorem zy5 (vals:El→List Vl) {G:List El} (hs:G.Pairwise fun a b=>zdO a b<0):zel vals G=zaG vals G G:=by
 have:∀ (B A:List El),G=A++B→B.foldl (zje vals) (zaG vals G A)=zaG vals G G:=by
  intro B
  induction B with
  | nil=>intro A h; rw [List.append_nil] at h; rw [← h]; rfl
  | cons e B ih =>
   intro A h
   rw [List.foldl_cons,zwk vals h hs]
   exact ih (A++[e]) (by rw [h]; simp)
 have h0:zaG vals G []=.none:=by
  apply Vw.ext' <;> simp [zaG,Vw.none]
 have:=this G [] rfl
 rw [h0] at this
 exact this
def lkK (x:Lk):List UInt8 × List UInt8 × List UInt8:=(x.f,x.y,x.t)
theorem zA8 {x y:Lk} (h:lkK x=lkK y):x=y:=by
 cases x; cases y; simp only [lkK,Prod.mk.injEq] at h; simp [h]
def zfg (x y:Lk):Int:=orL [zch x.f y.f,zch x.y y.y,zch x.t y.t]
theorem zf6 (x y:Lk):zfg x y=zes zch (zes zch zch) (lkK x) (lkK y):=by
 simp only [zfg,orL,zes,lkK]
 by_cases h1:zch x.f y.f=0
 ·by_cases h2:zch x.y y.y=0
  ·by_cases h3:zch x.t y.t=0 <;> simp [h1,h2,h3]
  ·simp [h1,h2]
 ·simp [h1]
theorem ordL_ok:CmpOk zfg where
 self:=fun x=>by rw [zf6]; exact (zax zaR (zax zaR zaR)).self _
 swap:=fun x y=>by rw [zf6,zf6]; exact (zax zaR (zax zaR zaR)).swap _ _
 trans:=fun x y z=>by rw [zf6,zf6,zf6]; exact (zax zaR (zax zaR zaR)).trans _ _ _
 zero:=fun x y h=>by rw [zf6] at h; exact zA8 ((zax zaR (zax zaR zaR)).zero _ _ h)
def lkC (x:Lk):List GV:=[.str (mkB x.f),.str (mkB x.t),.str (mkB x.y)]
end Go.Sh
