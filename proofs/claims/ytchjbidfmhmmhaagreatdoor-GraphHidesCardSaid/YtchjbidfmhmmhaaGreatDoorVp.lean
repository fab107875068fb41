/- Own work: the zaG machine and what it shows, part Vp. -/
import Derived.Lib.Split
import Derived.Lib.AtoiAll
import Derived.Lib.ItoaNum
import Derived.Test.YtchjbidfmhmmhaaGreatDoorShA
import Derived.Lib.IndexMore
import Derived.Lib.Join
import Derived.Test.YtchjbidfmhmmhaaGreatDoorShH
set_option linter.all false
namespace Go.Sh
open Go
def zbQ (c:UInt8):List UInt8→List (List UInt8)
 | []=>[[]]
 | b::l=>if b=c then []::zbQ c l else match zbQ c l with
  | []=>[[b]]
  | p::ps=>(b::p)::ps
theorem zcQ {s:List UInt8} {c:UInt8} {i:Nat} (h:Lib.index s [c]=i):Lib.split s [c]=s.take i::Lib.split (s.drop (i+1)) [c]:=by
 have hm:¬ (Lib.index s [c] == -1)=true:=fun e=>by have:=beq_iff_eq.1 e; omega
 have e:(Lib.index s [c]).toNat=i:=by omega
 unfold Lib.split
 rw [Lib.count_hit (by simp) h,Nat.add_comm 1,Lib.splitK,if_neg hm,e]
 simp
theorem zcr {s:List UInt8} {c:UInt8} (h:Lib.index s [c]=-1):Lib.split s [c]=[s]:=by
 unfold Lib.split
 rw [Lib.count_miss h]; rfl
theorem zlZ (c:UInt8):∀ s:List UInt8,Lib.split s [c]=zbQ c s
 | []=>by rw [zcr (by simp [Lib.index])]; rfl
 | b::l=>by
  have ih:=zlZ c l
  unfold zbQ
  by_cases hb:b=c
  ·subst hb
   rw [if_pos rfl,zcQ (i:=0) (by simp [Lib.index,List.isPrefixOf])]
   simp [ih]
  ·rw [if_neg hb]
   have hp:List.isPrefixOf [c] (b::l)=false:=by simp [List.isPrefixOf]; exact fun h=>hb h.symm
   by_cases hi:Lib.index l [c]=-1
   ·rw [zcr (by simp [Lib.index,hp,hi]),← ih,zcr hi]
   ·have hge:=Lib.index_ge l [c]
    obtain ⟨i,hi'⟩:∃ i:Nat,Lib.index l [c]=i:=⟨(Lib.index l [c]).toNat,by omega⟩
    rw [zcQ (i:=i+1) (by simp [Lib.index,hp,hi']),← ih,zcQ hi']
    simp
def zcR (c:UInt8):Bool:=decide (97≤c.toNat∧c.toNat≤122∨65≤c.toNat∧c.toNat≤90)
def zdR (c:UInt8):Bool:=zcR c || decide (48≤c.toNat∧c.toNat≤57∨c.toNat=95)
def zaC (l:List UInt8):Bool:=decide (1≤l.length∧l.length≤16)&&(match l with | []=>false | c::_=>zcR c)&&l.all zdR
def zjC (l:List UInt8):Bool:=l.all (fun c=>decide (32≤c.toNat∧c.toNat≤126))&&decide (l.length≤64)
def zfo (l:List UInt8):Option (List UInt8 × List UInt8 × List UInt8):=match zbQ 62 l with
 | [a,b,c]=>if zaC a&&zaC b&&zaC c then some (a,b,c) else none
 | _=>none
def zdV (k n:Int) (l:List UInt8):Bool :=
 if k=0 then decide (n=0∧l=[])
 else if k=1 then decide ((n=0∨n=1)∧l=[])
 else if k=2 then decide (-1099511627776≤n∧n≤1099511627776∧l=[])
 else if k=3 then decide (n=0)&&zjC l
 else if k=4 then decide (n=0)&&zaC l
 else if k=5 then decide (n=0)&&(zfo l).isSome
 else false
def zny:List UInt8→List UInt8
 | []=>[]
 | c::l=>if c=39∨c=92 then 92::c::zny l else c::zny l
def znz (k n:Int) (l:List UInt8):List UInt8 :=
 if k=0 then [110,117,108,108]
 else if k=1 then if n=1 then [116,114,117,101] else [102,97,108,115,101]
 else if k=2 then Lib.itoa n
 else if k=3 then 39::(zny l++[39])
 else if k=4 then 40::(l++[41])
 else 91::(l++[93])
def zzs (k n:Int) (l:List UInt8):List UInt8:=if zdV k n l then znz k n l else []
theorem dec_ne (u:Nat):Lib.decDigits u≠[]:=by
 intro h
 have:=Lib.decDigits_length u
 have h2:=Lib.nDigits_pos u
 rw [h] at this; simp at this; omega
theorem zgJ:∀ (k u:Nat),1≤k→u<10 ^ k→Lib.nDigits u≤k
 | 0,_,h,_=>by omega
 | 1,u,_,h=>by rw [Lib.nDigits_small (by simpa using h)]; exact Nat.le_refl _
 | k+2,u,_,h=>by
  by_cases hu:u<10
  ·rw [Lib.nDigits_small hu]; omega
  ·rw [Lib.nDigits_big hu]
   have:=zgJ (k+1) (u / 10) (by omega) (by rw [Nat.pow_succ] at h; omega)
   omega
theorem zwW (n:Int):Lib.itoa n=if n<0∧-10<n then [45,UInt8.ofNat (48+n.natAbs)] else if n<0 then Lib.itoa (n.tdiv 10)++[UInt8.ofNat (48+(n.tmod 10).natAbs)] else if n<10 then [UInt8.ofNat (48+n.natAbs)] else Lib.itoa (n.tdiv 10)++[UInt8.ofNat (48+(n.tmod 10).natAbs)]:=by
 by_cases h1:n<0
 ·by_cases h2 : -10<n
  ·rw [if_pos ⟨h1,h2⟩]
   unfold Lib.itoa
   rw [if_pos h1,Lib.decDigits,dif_pos (by omega)]
  ·rw [if_neg (by omega),if_pos h1]
   have hq:n.tdiv 10=-((n.natAbs / 10:Nat):Int):=by
    obtain ⟨m,rfl⟩:∃ m:Nat,n=-(m:Int):=⟨n.natAbs,by omega⟩
    rw [Int.neg_tdiv]; simp
   have hr:(n.tmod 10).natAbs=n.natAbs % 10:=by rw [Int.natAbs_tmod]; rfl
   rw [hr]
   unfold Lib.itoa
   rw [if_pos h1,if_pos (by rw [hq]; omega),Lib.decDigits,dif_neg (by omega)]
   have:(n.tdiv 10).natAbs=n.natAbs / 10:=by rw [hq]; omega
   rw [this]; rfl
 ·rw [if_neg (by omega),if_neg h1]
  by_cases h2:n<10
  ·rw [if_pos h2]
   unfold Lib.itoa
   rw [if_neg h1,Lib.decDigits,dif_pos (by omega)]
   have:n.toNat=n.natAbs:=by omega
   rw [this]
  ·rw [if_neg h2]
   have hq:n.tdiv 10=((n.toNat / 10:Nat):Int):=by
    obtain ⟨m,rfl⟩:∃ m:Nat,n=(m:Int):=⟨n.toNat,by omega⟩
    simp
   have hr:(n.tmod 10).natAbs=n.toNat % 10:=by
    rw [Int.natAbs_tmod]
    have:n.natAbs=n.toNat:=by omega
    rw [this]; rfl
   rw [hr]
   unfold Lib.itoa
   rw [if_neg h1,if_neg (by rw [hq]; omega),Lib.decDigits,dif_neg (by omega)]
   have:(n.tdiv 10).toNat=n.toNat / 10:=by rw [hq]; omega
   rw [this]
def zDM:List UInt8→List UInt8
 | c::d::l=>if c=92 then d::zDM l else c::zDM (d::l)
 | _=>[]
def mid (l:List UInt8):List UInt8:=(l.drop 1).take (l.length - 2)
def zDN (l:List UInt8):Int:=numCase (Lib.atoiAll l) (fun v=>v) 0 (Lib.atoiSat l)
def zxm (l:List UInt8):Int × Int × List UInt8 :=
 if l=[116,114,117,101] then (1,1,[])
 else if l=[102,97,108,115,101] then (1,0,[])
 else if l=[110,117,108,108]∨l=[] then (0,0,[])
 else if 1<l.length∧l.head?=some 39 then (3,0,zDM (l.drop 1))
 else if 1<l.length∧l.head?=some 40 then (4,0,mid l)
 else if 1<l.length∧l.head?=some 91 then (5,0,mid l)
 else (2,zDN l,[])
def zEn (v:Int × Int × List UInt8):List UInt8:=zzs v.1 v.2.1 v.2.2
def zBJ (l:List UInt8):Option (Int × Int × List UInt8):=if l≠[]∧zEn (zxm l)=l then some (zxm l) else none
theorem ziv {k n:Int} {l:List UInt8} (h:zdV k n l=true) :
 (k=0∧n=0∧l=[])∨(k=1∧n=0∧l=[])∨(k=1∧n=1∧l=[])∨(k=2∧-1099511627776≤n∧n≤1099511627776∧l=[])∨(k=3∧n=0)∨(k=4∧n=0)∨(k=5∧n=0):=by
 unfold zdV at h
 split at h
 ·simp at h; simp [*]
 ·split at h
  ·simp at h
   rcases h with ⟨h | h,h'⟩
   ·simp [*]
   ·simp [*]
  ·split at h
   ·simp at h; simp [*]
   ·split at h
    ·simp at h; simp [*]
    ·split at h
     ·simp at h; simp [*]
     ·split at h
      ·simp at h; simp [*]
      ·cases h
def w1 (l:List UInt8):List UInt8:=(Lib.cut l [32]).1
def r1 (l:List UInt8):List UInt8:=(Lib.cut l [32]).2.1
def zEo:List (List UInt8):=[[],[97,100,100],[114,101,109,111,118,101],[115,101,116],[99,108,101,97,114]]
def zEp:List (List UInt8):=[[],[110,111,100,101],[108,97,98,101,108],[101,100,103,101],[112,114,111,112],[116,114,97,105,116]]
def zD3 (L:List (List UInt8)) (k:Int):List UInt8:=L.getD k.toNat []
structure Chg where
 op:Int
 ek:Int
 a:List UInt8
 b:List UInt8
 c:List UInt8
 d:List UInt8
 vk:Int
 vn:Int
 vt:List UInt8
def Chg.zero:Chg:=⟨0,0,[],[],[],[],0,0,[]⟩
def zbl (k:Int) (a b c d:List UInt8):Bool :=
 if k=1 then zaC a&&decide (b=[]∧c=[]∧d=[])
 else if k=2∨k=4 then zaC a&&zaC d&&decide (b=[]∧c=[])
 else if k=3 then zaC a&&zaC b&&zaC c&&decide (d=[])
 else if k=5 then zaC a&&zaC b&&zaC c&&zaC d
 else false
def Chg.none (x:Chg):Bool:=decide (x.vk=0∧x.vn=0∧x.vt=[])
def zBK (k:Int) (a b c d:List UInt8):List (List UInt8):=if k=1 then [a] else if k=3 then [a,c,b] else if k=5 then [a,c,b,d] else [a,d]
def Chg.text (x:Chg):List UInt8:=Lib.join (zD3 zEo x.op::zD3 zEp x.ek::(zBK x.ek x.a x.b x.c x.d++(if x.none then [] else [zzs x.vk x.vn x.vt]))) [32]
def Chg.of (op ek:Int) (p:List UInt8 × List UInt8 × List UInt8 × List UInt8 × List UInt8):Chg :=
 let v:=if op=3 then (zBJ p.2.2.2.2).getD (0,0,[]) else (0,0,[])
 ⟨op,ek,p.1,p.2.1,p.2.2.1,p.2.2.2.1,v.1,v.2.1,v.2.2⟩
theorem ziw {k:Int} {a b c d:List UInt8} (h:zbl k a b c d=true):k=1∨k=2∨k=3∨k=4∨k=5:=by
 unfold zbl at h
 split at h
 ·omega
 ·split at h
  ·omega
  ·split at h
   ·omega
   ·split at h
    ·omega
    ·cases h
structure Lk where
 f:List UInt8
 t:List UInt8
 y:List UInt8
 deriving DecidableEq
instance:DecidableEq El:=fun x y =>
 if h:elK x=elK y then .isTrue (ztN h) else .isFalse fun e=>h (e ▸ rfl)
abbrev zaw (a:List UInt8):El:=⟨1,a,[],[],[]⟩
abbrev zcl (x:Lk):El:=⟨3,x.f,x.t,x.y,[]⟩
abbrev zcd (e:El):Lk:=⟨e.a,e.b,e.c⟩
def zan (e:El):El:=if e.k=5 then zcl (zcd e) else zaw e.a
def ze3 {α β:Type} [DecidableEq α] (f:α→β) (a:α) (b:β):α→β:=fun x=>if x=a then b else f x
structure Vw where
 nodes:List (List UInt8)
 links:List Lk
 labels:List UInt8→List (List UInt8)
 values:El→List Vl
 names:El→List (List UInt8)
 there:El→Bool
def Vw.none:Vw:=⟨[],[],fun _=>[],fun _=>[],fun _=>[],fun _=>false⟩
def zix (vals:El→List Vl) (w:Vw) (e:El):Vw :=
 if e.k=1 then { w with there:=ze3 w.there e true,nodes:=w.nodes++[e.a] }
 else if e.k=2 then if w.there (zaw e.a) then { w with labels:=ze3 w.labels e.a (w.labels e.a++[e.d]) } else w
 else if e.k=3 then if w.there (zaw e.a)&&w.there (zaw e.b) then { w with there:=ze3 w.there e true,links:=w.links++[zcd e] } else w
 else if e.k=4∨e.k=5 then if w.there (zan e) then { w with values:=ze3 w.values e (vals e),names:=ze3 w.names (zan e) (w.names (zan e)++[e.d]) } else w
 else w
def zdW (vals:El→List Vl) (G:List El):Vw:=G.foldl (zix vals) .none
def zaK (G:List El) (x:El):Bool:=decide (x∈G)&&(decide (x.k=1) || (decide (x.k=3)&&(decide (zaw x.a∈G)&&decide (zaw x.b∈G))))
def zaD (vals:El→List Vl) (G A:List El):Vw where
 nodes:=(A.filter fun e=>decide (e.k=1)).map (·.a)
 links:=(A.filter fun e=>decide (e.k=3)&&zaK G e).map zcd
 labels:=fun key=>(A.filter fun e=>decide (e.k=2∧e.a=key)&&zaK G (zaw key)).map (·.d)
 values:=fun x=>if decide (x∈A)&&(decide (x.k=4∨x.k=5)&&zaK G (zan x)) then vals x else []
 names:=fun o=>(A.filter fun e=>decide ((e.k=4∨e.k=5)∧zan e=o)&&zaK G o).map (·.d)
 there:=fun x=>decide (x∈A)&&zaK G x
theorem Vw.ext' {a b:Vw} (h1:a.nodes=b.nodes) (h2:a.links=b.links) (h3:a.labels=b.labels) (h4:a.values=b.values) (h5:a.names=b.names) (h6:a.there=b.there):a=b:=by
 cases a; cases b; simp only [Vw.mk.injEq] at *; exact ⟨h1,h2,h3,h4,h5,h6⟩
theorem zwX {x y:El} (h:zdu x y<0):x.k≤y.k:=by
 rcases Int.lt_or_le y.k x.k with h' | h'
 ·have:zin x.k y.k=1:=by unfold zin; rw [if_neg (by omega),if_pos h']
  simp [zdu,orL,this] at h
 ·exact h'
theorem zBL {A B:List El} {e:El} (hs:(A++e::B).Pairwise fun a b=>zdu a b<0) {x:El} (hk:x.k<e.k):decide (x∈A)=decide (x∈A++e::B):=by
 rw [decide_eq_decide]
 refine ⟨fun h=>List.mem_append_left _ h,fun h=>?_⟩
 rcases List.mem_append.1 h with h | h
 ·exact h
 ·exfalso
  rw [List.pairwise_append] at hs
  rcases List.mem_cons.1 h with rfl | h
  ·omega
  ·have:=zwX ((List.pairwise_cons.1 hs.2.1).1 x h); omega
theorem zub (vals:El→List Vl) {G A B:List El} {e:El} (hG:G=A++e::B) (hs:G.Pairwise fun a b=>zdu a b<0) :
 zix vals (zaD vals G A) e=zaD vals G (A++[e]):=by
 have hs':=hs
 rw [hG] at hs'
 have low:∀ x:El,x.k<e.k→decide (x∈A)=decide (x∈G):=fun x hk=>by rw [hG]; exact zBL hs' hk
 have heA:e ∉ A:=fun h=>by
  have:=(List.pairwise_append.1 hs').2.2 e h e List.mem_cons_self
  rw [ordE_ok.self] at this
  omega
 have heG:e∈G:=by rw [hG]; simp
 have thn:∀ a,1<e.k→(zaD vals G A).there (zaw a)=zaK G (zaw a):=fun a hk=>by
  simp only [zaD,low (zaw a) hk,zaK]
  cases decide (zaw a∈G) <;> rfl
 have mem:∀ x:El,decide (x∈A++[e])=(decide (x∈A) || decide (x=e)):=fun x=>by simp [List.mem_append]
 by_cases k1:e.k=1
 ·have hth:zaK G e=true:=by simp [zaK,heG,k1]
  rw [zix,if_pos k1]
  apply Vw.ext'
  ·simp [zaD,List.filter_append,List.filter_cons,k1]
  ·simp [zaD,List.filter_append,List.filter_cons,k1]
  ·funext key; simp [zaD,List.filter_append,List.filter_cons,k1]
  ·funext x
   simp only [zaD,mem]
   by_cases hx:x=e
   ·subst hx; simp [k1]
   ·simp [hx]
  ·funext o; simp [zaD,List.filter_append,List.filter_cons,k1]
  ·funext x
   simp only [zaD,mem,ze3]
   by_cases hx:x=e
   ·subst hx; simp [hth]
   ·simp [hx]
 by_cases k2:e.k=2
 ·rw [zix,if_neg k1,if_pos k2,thn e.a (by omega)]
  have hn:∀ x,(decide (x∈A++[e])&&zaK G x)=(decide (x∈A)&&zaK G x):=fun x=>by
   rw [mem]
   by_cases hx:x=e
   ·subst hx; simp [zaK,k2]
   ·simp [hx]
  have hv:∀ x:El,(decide (x∈A++[e])&&(decide (x.k=4∨x.k=5)&&zaK G (zan x)))=(decide (x∈A)&&(decide (x.k=4∨x.k=5)&&zaK G (zan x))):=fun x=>by
   rw [mem]
   by_cases hx:x=e
   ·subst hx; simp [k2]
   ·simp [hx]
  by_cases ht:zaK G (zaw e.a)=true
  ·rw [if_pos ht]
   apply Vw.ext'
   ·simp [zaD,List.filter_append,List.filter_cons,k2]
   ·simp [zaD,List.filter_append,List.filter_cons,k2]
   ·funext key
    simp only [zaD,ze3,List.filter_append,List.filter_cons,List.filter_nil,k2,List.map_append]
    by_cases hk:key=e.a
    ·subst hk; simp [ht]
    ·have hk':¬ e.a=key:=fun h=>hk h.symm
     simp [hk,hk']
   ·funext x; simp only [zaD,hv]
   ·funext o; simp [zaD,List.filter_append,List.filter_cons,k2]
   ·funext x; simp only [zaD,hn]
  ·rw [if_neg ht]
   have ht:zaK G (zaw e.a)=false:=by simpa using ht
   apply Vw.ext'
   ·simp [zaD,List.filter_append,List.filter_cons,k2]
   ·simp [zaD,List.filter_append,List.filter_cons,k2]
   ·funext key
    simp only [zaD,List.filter_append,List.filter_cons,List.filter_nil,k2,List.map_append]
    by_cases hk:e.a=key
    ·subst hk; simp [ht]
    ·simp [hk]
   ·funext x; simp only [zaD,hv]
   ·funext o; simp [zaD,List.filter_append,List.filter_cons,k2]
   ·funext x; simp only [zaD,hn]
 by_cases k3:e.k=3
 ·rw [zix,if_neg k1,if_neg k2,if_pos k3,thn e.a (by omega),thn e.b (by omega)]
  have hv:∀ x:El,(decide (x∈A++[e])&&(decide (x.k=4∨x.k=5)&&zaK G (zan x)))=(decide (x∈A)&&(decide (x.k=4∨x.k=5)&&zaK G (zan x))):=fun x=>by
   rw [mem]
   by_cases hx:x=e
   ·subst hx; simp [k3]
   ·simp [hx]
  have hth:zaK G e=(zaK G (zaw e.a)&&zaK G (zaw e.b)):=by simp [zaK,heG,k3]
  by_cases ht:(zaK G (zaw e.a)&&zaK G (zaw e.b))=true
  ·rw [if_pos ht]
   rw [ht] at hth
   apply Vw.ext'
   ·simp [zaD,List.filter_append,List.filter_cons,k3]
   ·simp [zaD,List.filter_append,List.filter_cons,k3,hth]
   ·funext key; simp [zaD,List.filter_append,List.filter_cons,k3]
   ·funext x; simp only [zaD,hv]
   ·funext o; simp [zaD,List.filter_append,List.filter_cons,k3]
   ·funext x
    simp only [zaD,mem,ze3]
    by_cases hx:x=e
    ·subst hx; simp [hth]
    ·simp [hx]
  ·rw [if_neg ht]
   have ht:(zaK G (zaw e.a)&&zaK G (zaw e.b))=false:=by simpa using ht
   rw [ht] at hth
   apply Vw.ext'
   ·simp [zaD,List.filter_append,List.filter_cons,k3]
   ·simp [zaD,List.filter_append,List.filter_cons,k3,hth]
   ·funext key; simp [zaD,List.filter_append,List.filter_cons,k3]
   ·funext x; simp only [zaD,hv]
   ·funext o; simp [zaD,List.filter_append,List.filter_cons,k3]
   ·funext x
    simp only [zaD,mem]
    by_cases hx:x=e
    ·subst hx; simp [hth]
    ·simp [hx]
 by_cases k4:e.k=4∨e.k=5
 ·rw [zix,if_neg k1,if_neg k2,if_neg k3,if_pos k4]
  have ow:(zaD vals G A).there (zan e)=zaK G (zan e):=by
   rcases k4 with k | k
   ·have:zan e=zaw e.a:=by simp [zan,k]
    rw [this]; exact thn _ (by omega)
   ·have:zan e=zcl (zcd e):=by simp [zan,k]
    rw [this]
    simp only [zaD,low (zcl (zcd e)) (show (3:Int)<e.k by omega),zaK]
    cases decide (zcl (zcd e)∈G) <;> rfl
  have hn:∀ x,(decide (x∈A++[e])&&zaK G x)=(decide (x∈A)&&zaK G x):=fun x=>by
   rw [mem]
   by_cases hx:x=e
   ·subst hx; simp [zaK,k1,k3]
   ·simp [hx]
  rw [ow]
  by_cases ht:zaK G (zan e)=true
  ·rw [if_pos ht]
   apply Vw.ext'
   ·simp [zaD,List.filter_append,List.filter_cons,k1]
   ·simp [zaD,List.filter_append,List.filter_cons,k3]
   ·funext key; simp [zaD,List.filter_append,List.filter_cons,k2]
   ·funext x
    simp only [zaD,mem,ze3]
    by_cases hx:x=e
    ·subst hx; simp [ht,k4]
    ·simp [hx]
   ·funext o
    simp only [zaD,ze3,List.filter_append,List.filter_cons,List.filter_nil,List.map_append]
    by_cases hk:o=zan e
    ·subst hk; simp [ht,k4]
    ·have hk':¬ zan e=o:=fun h=>hk h.symm
     simp [hk,hk']
   ·funext x; simp only [zaD,hn]
  ·rw [if_neg ht]
   have ht:zaK G (zan e)=false:=by simpa using ht
   apply Vw.ext'
   ·simp [zaD,List.filter_append,List.filter_cons,k1]
   ·simp [zaD,List.filter_append,List.filter_cons,k3]
   ·funext key; simp [zaD,List.filter_append,List.filter_cons,k2]
   ·funext x
    simp only [zaD,mem]
    by_cases hx:x=e
    ·subst hx; simp [ht]
    ·simp [hx]
   ·funext o
    simp only [zaD,List.filter_append,List.filter_cons,List.filter_nil,List.map_append]
    by_cases hk:zan e=o
    ·subst hk; simp [ht]
    ·simp [hk]
   ·funext x; simp only [zaD,hn]
 ·rw [zix,if_neg k1,if_neg k2,if_neg k3,if_neg k4]
  have hn:∀ x,(decide (x∈A++[e])&&zaK G x)=(decide (x∈A)&&zaK G x):=fun x=>by
   rw [mem]
   by_cases hx:x=e
   ·subst hx; simp [zaK,k1,k3]
   ·simp [hx]
  apply Vw.ext'
  ·simp [zaD,List.filter_append,List.filter_cons,k1]
  ·simp [zaD,List.filter_append,List.filter_cons,k3]
  ·funext key; simp [zaD,List.filter_append,List.filter_cons,k2]
  ·funext x
   simp only [zaD,mem]
   by_cases hx:x=e
   ·subst hx; simp [k4]
   ·simp [hx]
  ·funext o; simp [zaD,List.filter_append,List.filter_cons,k4]
  ·funext x; simp only [zaD,hn]
theorem zwY (vals:El→List Vl) {G:List El} (hs:G.Pairwise fun a b=>zdu a b<0):zdW vals G=zaD vals G G:=by
 have:∀ (B A:List El),G=A++B→B.foldl (zix vals) (zaD vals G A)=zaD vals G G:=by
  intro B
  induction B with
  | nil=>intro A h; rw [List.append_nil] at h; rw [← h]; rfl
  | cons e B ih =>
   intro A h
   rw [List.foldl_cons,zub vals h hs]
   exact ih (A++[e]) (by rw [h]; simp)
 have h0:zaD vals G []=.none:=by
  apply Vw.ext' <;> simp [zaD,Vw.none]
 have:=this G [] rfl
 rw [h0] at this
 exact this
def lkK (x:Lk):List UInt8 × List UInt8 × List UInt8:=(x.f,x.y,x.t)
theorem zyV {x y:Lk} (h:lkK x=lkK y):x=y:=by
 cases x; cases y; simp only [lkK,Prod.mk.injEq] at h; simp [h]
def zfq (x y:Lk):Int:=orL [zc5 x.f y.f,zc5 x.y y.y,zc5 x.t y.t]
theorem zfp (x y:Lk):zfq x y=zd1 zc5 (zd1 zc5 zc5) (lkK x) (lkK y):=by
 simp only [zfq,orL,zd1,lkK]
 by_cases h1:zc5 x.f y.f=0
 ·by_cases h2:zc5 x.y y.y=0
  ·by_cases h3:zc5 x.t y.t=0 <;> simp [h1,h2,h3]
  ·simp [h1,h2]
 ·simp [h1]
theorem ordL_ok:CmpOk zfq where
 self:=fun x=>by rw [zfp]; exact (zau zaN (zau zaN zaN)).self _
 swap:=fun x y=>by rw [zfp,zfp]; exact (zau zaN (zau zaN zaN)).swap _ _
 trans:=fun x y z=>by rw [zfp,zfp,zfp]; exact (zau zaN (zau zaN zaN)).trans _ _ _
 zero:=fun x y h=>by rw [zfp] at h; exact zyV ((zau zaN (zau zaN zaN)).zero _ _ h)
def lkC (x:Lk):List GV:=[.str (mkB x.f),.str (mkB x.t),.str (mkB x.y)]
end Go.Sh
