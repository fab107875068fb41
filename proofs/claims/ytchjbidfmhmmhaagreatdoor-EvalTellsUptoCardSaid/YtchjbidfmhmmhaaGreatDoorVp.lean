/- Own work: the zaM machine and what it shows, part Vp. -/
import Derived.Lib.Split
import Derived.Lib.AtoiAll
import Derived.Lib.ItoaNum
import Derived.Test.YtchjbidfmhmmhaaGreatDoorShA
import Derived.Lib.IndexMore
import Derived.Lib.Join
import Derived.Test.YtchjbidfmhmmhaaGreatDoorShH
set_option linter.all false
namespace Go.Sh
open Go
def zbV (c:UInt8):List UInt8→List (List UInt8)
 | []=>[[]]
 | b::l=>if b=c then []::zbV c l else match zbV c l with
  | []=>[[b]]
  | p::ps=>(b::p)::ps
theorem zc5 {s:List UInt8} {c:UInt8} {i:Nat} (h:Lib.index s [c]=i):Lib.split s [c]=s.take i::Lib.split (s.drop (i+1)) [c]:=by
 have hm:¬ (Lib.index s [c] == -1)=true:=fun e=>by have:=beq_iff_eq.1 e; omega
 have e:(Lib.index s [c]).toNat=i:=by omega
 unfold Lib.split
 rw [Lib.count_hit (by simp) h,Nat.add_comm 1,Lib.splitK,if_neg hm,e]
 simp
theorem zcF {s:List UInt8} {c:UInt8} (h:Lib.index s [c]=-1):Lib.split s [c]=[s]:=by
 unfold Lib.split
 rw [Lib.count_miss h]; rfl
theorem znk (c:UInt8):∀ s:List UInt8,Lib.split s [c]=zbV c s
 | []=>by rw [zcF (by simp [Lib.index])]; rfl
 | b::l=>by
  have ih:=znk c l
  unfold zbV
  by_cases hb:b=c
  ·subst hb
   rw [if_pos rfl,zc5 (i:=0) (by simp [Lib.index,List.isPrefixOf])]
   simp [ih]
  ·rw [if_neg hb]
   have hp:List.isPrefixOf [c] (b::l)=false:=by simp [List.isPrefixOf]; exact fun h=>hb h.symm
   by_cases hi:Lib.index l [c]=-1
   ·rw [zcF (by simp [Lib.index,hp,hi]),← ih,zcF hi]
   ·have hge:=Lib.index_ge l [c]
    obtain ⟨i,hi'⟩:∃ i:Nat,Lib.index l [c]=i:=⟨(Lib.index l [c]).toNat,by omega⟩
    rw [zc5 (i:=i+1) (by simp [Lib.index,hp,hi']),← ih,zc5 hi']
    simp
def zc6 (c:UInt8):Bool:=decide (97≤c.toNat∧c.toNat≤122∨65≤c.toNat∧c.toNat≤90)
def zej (c:UInt8):Bool:=zc6 c || decide (48≤c.toNat∧c.toNat≤57∨c.toNat=95)
def zaz (l:List UInt8):Bool:=decide (1≤l.length∧l.length≤16)&&(match l with | []=>false | c::_=>zc6 c)&&l.all zej
def zky (l:List UInt8):Bool:=l.all (fun c=>decide (32≤c.toNat∧c.toNat≤126))&&decide (l.length≤64)
def zbE (l:List UInt8):Option (List UInt8 × List UInt8 × List UInt8):=match zbV 62 l with
 | [a,b,c]=>if zaz a&&zaz b&&zaz c then some (a,b,c) else none
 | _=>none
def zbN (k n:Int) (l:List UInt8):Bool :=
 if k=0 then decide (n=0∧l=[])
 else if k=1 then decide ((n=0∨n=1)∧l=[])
 else if k=2 then decide (-1099511627776≤n∧n≤1099511627776∧l=[])
 else if k=3 then decide (n=0)&&zky l
 else if k=4 then decide (n=0)&&zaz l
 else if k=5 then decide (n=0)&&(zbE l).isSome
 else false
def zHU:List UInt8→List UInt8
 | []=>[]
 | c::l=>if c=39∨c=92 then 92::c::zHU l else c::zHU l
def zIA (k n:Int) (l:List UInt8):List UInt8 :=
 if k=0 then [110,117,108,108]
 else if k=1 then if n=1 then [116,114,117,101] else [102,97,108,115,101]
 else if k=2 then Lib.itoa n
 else if k=3 then 39::(zHU l++[39])
 else if k=4 then 40::(l++[41])
 else 91::(l++[93])
def zIe (k n:Int) (l:List UInt8):List UInt8:=if zbN k n l then zIA k n l else []
theorem dec_ne (u:Nat):Lib.decDigits u≠[]:=by
 intro h
 have:=Lib.decDigits_length u
 have h2:=Lib.nDigits_pos u
 rw [h] at this; simp at this; omega
def zHV:List UInt8→List UInt8
 | c::d::l=>if c=92 then d::zHV l else c::zHV (d::l)
 | _=>[]
def mid (l:List UInt8):List UInt8:=(l.drop 1).take (l.length - 2)
def zHW (l:List UInt8):Int:=numCase (Lib.atoiAll l) (fun v=>v) 0 (Lib.atoiSat l)
def zAx (l:List UInt8):Int × Int × List UInt8 :=
 if l=[116,114,117,101] then (1,1,[])
 else if l=[102,97,108,115,101] then (1,0,[])
 else if l=[110,117,108,108]∨l=[] then (0,0,[])
 else if 1<l.length∧l.head?=some 39 then (3,0,zHV (l.drop 1))
 else if 1<l.length∧l.head?=some 40 then (4,0,mid l)
 else if 1<l.length∧l.head?=some 91 then (5,0,mid l)
 else (2,zHW l,[])
def zIB (v:Int × Int × List UInt8):List UInt8:=zIe v.1 v.2.1 v.2.2
def zFC (l:List UInt8):Option (Int × Int × List UInt8):=if l≠[]∧zIB (zAx l)=l then some (zAx l) else none
def w1 (l:List UInt8):List UInt8:=(Lib.cut l [32]).1
def r1 (l:List UInt8):List UInt8:=(Lib.cut l [32]).2.1
def zIC:List (List UInt8):=[[],[97,100,100],[114,101,109,111,118,101],[115,101,116],[99,108,101,97,114]]
def zID:List (List UInt8):=[[],[110,111,100,101],[108,97,98,101,108],[101,100,103,101],[112,114,111,112],[116,114,97,105,116]]
def zIf (L:List (List UInt8)) (k:Int):List UInt8:=L.getD k.toNat []
structure Chg where
 op:Int
 ek:Int
 a:List UInt8
 b:List UInt8
 c:List UInt8
 d:List UInt8
 vk:Int
 vn:Int
 vt:List UInt8
def Chg.zero:Chg:=⟨0,0,[],[],[],[],0,0,[]⟩
def zby (k:Int) (a b c d:List UInt8):Bool :=
 if k=1 then zaz a&&decide (b=[]∧c=[]∧d=[])
 else if k=2∨k=4 then zaz a&&zaz d&&decide (b=[]∧c=[])
 else if k=3 then zaz a&&zaz b&&zaz c&&decide (d=[])
 else if k=5 then zaz a&&zaz b&&zaz c&&zaz d
 else false
def Chg.none (x:Chg):Bool:=decide (x.vk=0∧x.vn=0∧x.vt=[])
def zFD (k:Int) (a b c d:List UInt8):List (List UInt8):=if k=1 then [a] else if k=3 then [a,c,b] else if k=5 then [a,c,b,d] else [a,d]
def Chg.text (x:Chg):List UInt8:=Lib.join (zIf zIC x.op::zIf zID x.ek::(zFD x.ek x.a x.b x.c x.d++(if x.none then [] else [zIe x.vk x.vn x.vt]))) [32]
def Chg.of (op ek:Int) (p:List UInt8 × List UInt8 × List UInt8 × List UInt8 × List UInt8):Chg :=
 let v:=if op=3 then (zFC p.2.2.2.2).getD (0,0,[]) else (0,0,[])
 ⟨op,ek,p.1,p.2.1,p.2.2.1,p.2.2.2.1,v.1,v.2.1,v.2.2⟩
theorem zjk {k:Int} {a b c d:List UInt8} (h:zby k a b c d=true):k=1∨k=2∨k=3∨k=4∨k=5:=by
 unfold zby at h
 split at h
 ·omega
 ·split at h
  ·omega
  ·split at h
   ·omega
   ·split at h
    ·omega
    ·cases h
structure Lk where
 f:List UInt8
 t:List UInt8
 y:List UInt8
 deriving DecidableEq
instance:DecidableEq El:=fun x y =>
 if h:elK x=elK y then .isTrue (zv9 h) else .isFalse fun e=>h (e ▸ rfl)
abbrev zbg (a:List UInt8):El:=⟨1,a,[],[],[]⟩
abbrev zgd (x:Lk):El:=⟨3,x.f,x.t,x.y,[]⟩
abbrev zcG (e:El):Lk:=⟨e.a,e.b,e.c⟩
def zax (e:El):El:=if e.k=5 then zgd (zcG e) else zbg e.a
def zfP {α β:Type} [DecidableEq α] (f:α→β) (a:α) (b:β):α→β:=fun x=>if x=a then b else f x
structure Vw where
 nodes:List (List UInt8)
 links:List Lk
 labels:List UInt8→List (List UInt8)
 values:El→List Vl
 names:El→List (List UInt8)
 there:El→Bool
def Vw.none:Vw:=⟨[],[],fun _=>[],fun _=>[],fun _=>[],fun _=>false⟩
def zjl (vals:El→List Vl) (w:Vw) (e:El):Vw :=
 if e.k=1 then { w with there:=zfP w.there e true,nodes:=w.nodes++[e.a] }
 else if e.k=2 then if w.there (zbg e.a) then { w with labels:=zfP w.labels e.a (w.labels e.a++[e.d]) } else w
 else if e.k=3 then if w.there (zbg e.a)&&w.there (zbg e.b) then { w with there:=zfP w.there e true,links:=w.links++[zcG e] } else w
 else if e.k=4∨e.k=5 then if w.there (zax e) then { w with values:=zfP w.values e (vals e),names:=zfP w.names (zax e) (w.names (zax e)++[e.d]) } else w
 else w
def zen (vals:El→List Vl) (G:List El):Vw:=G.foldl (zjl vals) .none
def za0 (G:List El) (x:El):Bool:=decide (x∈G)&&(decide (x.k=1) || (decide (x.k=3)&&(decide (zbg x.a∈G)&&decide (zbg x.b∈G))))
def zaT (vals:El→List Vl) (G A:List El):Vw where
 nodes:=(A.filter fun e=>decide (e.k=1)).map (·.a)
 links:=(A.filter fun e=>decide (e.k=3)&&za0 G e).map zcG
 labels:=fun key=>(A.filter fun e=>decide (e.k=2∧e.a=key)&&za0 G (zbg key)).map (·.d)
 values:=fun x=>if decide (x∈A)&&(decide (x.k=4∨x.k=5)&&za0 G (zax x)) then vals x else []
 names:=fun o=>(A.filter fun e=>decide ((e.k=4∨e.k=5)∧zax e=o)&&za0 G o).map (·.d)
 there:=fun x=>decide (x∈A)&&za0 G x
theorem Vw.ext' {a b:Vw} (h1:a.nodes=b.nodes) (h2:a.links=b.links) (h3:a.labels=b.labels) (h4:a.values=b.values) (h5:a.names=b.names) (h6:a.there=b.there):a=b:=by
 cases a; cases b; simp only [Vw.mk.injEq] at *; exact ⟨h1,h2,h3,h4,h5,h6⟩
theorem zzK {x y:El} (h:zdU x y<0):x.k≤y.k:=by
 rcases Int.lt_or_le y.k x.k with h' | h'
 ·have:zem x.k y.k=1:=by unfold zem; rw [if_neg (by omega),if_pos h']
  simp [zdU,orL,this] at h
 ·exact h'
theorem zFE {A B:List El} {e:El} (hs:(A++e::B).Pairwise fun a b=>zdU a b<0) {x:El} (hk:x.k<e.k):decide (x∈A)=decide (x∈A++e::B):=by
 rw [decide_eq_decide]
 refine ⟨fun h=>List.mem_append_left _ h,fun h=>?_⟩
 rcases List.mem_append.1 h with h | h
 ·exact h
 ·exfalso
  rw [List.pairwise_append] at hs
  rcases List.mem_cons.1 h with rfl | h
  ·omega
  ·have:=zzK ((List.pairwise_cons.1 hs.2.1).1 x h); omega
theorem zwr (vals:El→List Vl) {G A B:List El} {e:El} (hG:G=A++e::B) (hs:G.Pairwise fun a b=>zdU a b<0) :
 zjl vals (zaT vals G A) e=zaT vals G (A++[e]):=by
 have hs':=hs
 rw [hG] at hs'
 have low:∀ x:El,x.k<e.k→decide (x∈A)=decide (x∈G):=fun x hk=>by rw [hG]; exact zFE hs' hk
 have heA:e ∉ A:=fun h=>by
  have:=(List.pairwise_append.1 hs').2.2 e h e List.mem_cons_self
  rw [ordE_ok.self] at this
  omega
 have heG:e∈G:=by rw [hG]; simp
 have thn:∀ a,1<e.k→(zaT vals G A).there (zbg a)=za0 G (zbg a):=fun a hk=>by
  simp only [zaT,low (zbg a) hk,za0]
  cases decide (zbg a∈G) <;> rfl
 have mem:∀ x:El,decide (x∈A++[e])=(decide (x∈A) || decide (x=e)):=fun x=>by simp [List.mem_append]
 by_cases k1:e.k=1
 ·have hth:za0 G e=true:=by simp [za0,heG,k1]
  rw [zjl,if_pos k1]
  apply Vw.ext'
  ·simp [zaT,List.filter_append,List.filter_cons,k1]
  ·simp [zaT,List.filter_append,List.filter_cons,k1]
  ·funext key; simp [zaT,List.filter_append,List.filter_cons,k1]
  ·funext x
   simp only [zaT,mem]
   by_cases hx:x=e
   ·subst hx; simp [k1]
   ·simp [hx]
  ·funext o; simp [zaT,List.filter_append,List.filter_cons,k1]
  ·funext x
   simp only [zaT,mem,zfP]
   by_cases hx:x=e
   ·subst hx; simp [hth]
   ·simp [hx]
 by_cases k2:e.k=2
 ·rw [zjl,if_neg k1,if_pos k2,thn e.a (by omega)]
  have hn:∀ x,(decide (x∈A++[e])&&za0 G x)=(decide (x∈A)&&za0 G x):=fun x=>by
   rw [mem]
   by_cases hx:x=e
   ·subst hx; simp [za0,k2]
   ·simp [hx]
  have hv:∀ x:El,(decide (x∈A++[e])&&(decide (x.k=4∨x.k=5)&&za0 G (zax x)))=(decide (x∈A)&&(decide (x.k=4∨x.k=5)&&za0 G (zax x))):=fun x=>by
   rw [mem]
   by_cases hx:x=e
   ·subst hx; simp [k2]
   ·simp [hx]
  by_cases ht:za0 G (zbg e.a)=true
  ·rw [if_pos ht]
   apply Vw.ext'
   ·simp [zaT,List.filter_append,List.filter_cons,k2]
   ·simp [zaT,List.filter_append,List.filter_cons,k2]
   ·funext key
    simp only [zaT,zfP,List.filter_append,List.filter_cons,List.filter_nil,k2,List.map_append]
    by_cases hk:key=e.a
    ·subst hk; simp [ht]
    ·have hk':¬ e.a=key:=fun h=>hk h.symm
     simp [hk,hk']
   ·funext x; simp only [zaT,hv]
   ·funext o; simp [zaT,List.filter_append,List.filter_cons,k2]
   ·funext x; simp only [zaT,hn]
  ·rw [if_neg ht]
   have ht:za0 G (zbg e.a)=false:=by simpa using ht
   apply Vw.ext'
   ·simp [zaT,List.filter_append,List.filter_cons,k2]
   ·simp [zaT,List.filter_append,List.filter_cons,k2]
   ·funext key
    simp only [zaT,List.filter_append,List.filter_cons,List.filter_nil,k2,List.map_append]
    by_cases hk:e.a=key
    ·subst hk; simp [ht]
    ·simp [hk]
   ·funext x; simp only [zaT,hv]
   ·funext o; simp [zaT,List.filter_append,List.filter_cons,k2]
   ·funext x; simp only [zaT,hn]
 by_cases k3:e.k=3
 ·rw [zjl,if_neg k1,if_neg k2,if_pos k3,thn e.a (by omega),thn e.b (by omega)]
  have hv:∀ x:El,(decide (x∈A++[e])&&(decide (x.k=4∨x.k=5)&&za0 G (zax x)))=(decide (x∈A)&&(decide (x.k=4∨x.k=5)&&za0 G (zax x))):=fun x=>by
   rw [mem]
   by_cases hx:x=e
   ·subst hx; simp [k3]
   ·simp [hx]
  have hth:za0 G e=(za0 G (zbg e.a)&&za0 G (zbg e.b)):=by simp [za0,heG,k3]
  by_cases ht:(za0 G (zbg e.a)&&za0 G (zbg e.b))=true
  ·rw [if_pos ht]
   rw [ht] at hth
   apply Vw.ext'
   ·simp [zaT,List.filter_append,List.filter_cons,k3]
   ·simp [zaT,List.filter_append,List.filter_cons,k3,hth]
   ·funext key; simp [zaT,List.filter_append,List.filter_cons,k3]
   ·funext x; simp only [zaT,hv]
   ·funext o; simp [zaT,List.filter_append,List.filter_cons,k3]
   ·funext x
    simp only [zaT,mem,zfP]
    by_cases hx:x=e
    ·subst hx; simp [hth]
    ·simp [hx]
  ·rw [if_neg ht]
   have ht:(za0 G (zbg e.a)&&za0 G (zbg e.b))=false:=by simpa using ht
   rw [ht] at hth
   apply Vw.ext'
   ·simp [zaT,List.filter_append,List.filter_cons,k3]
   ·simp [zaT,List.filter_append,List.filter_cons,k3,hth]
   ·funext key; simp [zaT,List.filter_append,List.filter_cons,k3]
   ·funext x; simp only [zaT,hv]
   ·funext o; simp [zaT,List.filter_append,List.filter_cons,k3]
   ·funext x
    simp only [zaT,mem]
    by_cases hx:x=e
    ·subst hx; simp [hth]
    ·simp [hx]
 by_cases k4:e.k=4∨e.k=5
 ·rw [zjl,if_neg k1,if_neg k2,if_neg k3,if_pos k4]
  have ow:(zaT vals G A).there (zax e)=za0 G (zax e):=by
   rcases k4 with k | k
   ·have:zax e=zbg e.a:=by simp [zax,k]
    rw [this]; exact thn _ (by omega)
   ·have:zax e=zgd (zcG e):=by simp [zax,k]
    rw [this]
    simp only [zaT,low (zgd (zcG e)) (show (3:Int)<e.k by omega),za0]
    cases decide (zgd (zcG e)∈G) <;> rfl
  have hn:∀ x,(decide (x∈A++[e])&&za0 G x)=(decide (x∈A)&&za0 G x):=fun x=>by
   rw [mem]
   by_cases hx:x=e
   ·subst hx; simp [za0,k1,k3]
   ·simp [hx]
  rw [ow]
  by_cases ht:za0 G (zax e)=true
  ·rw [if_pos ht]
   apply Vw.ext'
   ·simp [zaT,List.filter_append,List.filter_cons,k1]
   ·simp [zaT,List.filter_append,List.filter_cons,k3]
   ·funext key; simp [zaT,List.filter_append,List.filter_cons,k2]
   ·funext x
    simp only [zaT,mem,zfP]
    by_cases hx:x=e
    ·subst hx; simp [ht,k4]
    ·simp [hx]
   ·funext o
    simp only [zaT,zfP,List.filter_append,List.filter_cons,List.filter_nil,List.map_append]
    by_cases hk:o=zax e
    ·subst hk; simp [ht,k4]
    ·have hk':¬ zax e=o:=fun h=>hk h.symm
     simp [hk,hk']
   ·funext x; simp only [zaT,hn]
  ·rw [if_neg ht]
   have ht:za0 G (zax e)=false:=by simpa using ht
   apply Vw.ext'
   ·simp [zaT,List.filter_append,List.filter_cons,k1]
   ·simp [zaT,List.filter_append,List.filter_cons,k3]
   ·funext key; simp [zaT,List.filter_append,List.filter_cons,k2]
   ·funext x
    simp only [zaT,mem]
    by_cases hx:x=e
    ·subst hx; simp [ht]
    ·simp [hx]
   ·funext o
    simp only [zaT,List.filter_append,List.filter_cons,List.filter_nil,List.map_append]
    by_cases hk:zax e=o
    ·subst hk; simp [ht]
    ·simp [hk]
   ·funext x; simp only [zaT,hn]
 ·rw [zjl,if_neg k1,if_neg k2,if_neg k3,if_neg k4]
  have hn:∀ x,(decide (x∈A++[e])&&za0 G x)=(decide (x∈A)&&za0 G x):=fun x=>by
   rw [mem]
   by_cases hx:x=e
   ·subst hx; simp [za0,k1,k3]
   ·simp [hx]
  apply Vw.ext'
  ·simp [zaT,List.filter_append,List.filter_cons,k1]
  ·simp [zaT,List.filter_append,List.filter_cons,k3]
  ·funext key; simp [zaT,List.filter_append,List.filter_cons,k2]
  ·funext x
   simp only [zaT,mem]
   by_cases hx:x=e
   ·subst hx; simp [k4]
   ·simp [hx]
  ·funext o; simp [zaT,List.filter_append,List.filter_cons,k4]
  ·funext x; simp only [zaT,hn]
theorem zzL (vals:El→List Vl) {G:List El} (hs:G.Pairwise fun a b=>zdU a b<0):zen vals G=zaT vals G G:=by
 have:∀ (B A:List El),G=A++B→B.foldl (zjl vals) (zaT vals G A)=zaT vals G G:=by
  intro B
  induction B with
  | nil=>intro A h; rw [List.append_nil] at h; rw [← h]; rfl
  | cons e B ih =>
   intro A h
   rw [List.foldl_cons,zwr vals h hs]
   exact ih (A++[e]) (by rw [h]; simp)
 have h0:zaT vals G []=.none:=by
  apply Vw.ext' <;> simp [zaT,Vw.none]
 have:=this G [] rfl
 rw [h0] at this
 exact this
def lkK (x:Lk):List UInt8 × List UInt8 × List UInt8:=(x.f,x.y,x.t)
theorem zB1 {x y:Lk} (h:lkK x=lkK y):x=y:=by
 cases x; cases y; simp only [lkK,Prod.mk.injEq] at h; simp [h]
def zgg (x y:Lk):Int:=orL [zcM x.f y.f,zcM x.y y.y,zcM x.t y.t]
theorem zge (x y:Lk):zgg x y=zew zcM (zew zcM zcM) (lkK x) (lkK y):=by
 simp only [zgg,orL,zew,lkK]
 by_cases h1:zcM x.f y.f=0
 ·by_cases h2:zcM x.y y.y=0
  ·by_cases h3:zcM x.t y.t=0 <;> simp [h1,h2,h3]
  ·simp [h1,h2]
 ·simp [h1]
theorem ordL_ok:CmpOk zgg where
 self:=fun x=>by rw [zge]; exact (zaB zaS (zaB zaS zaS)).self _
 swap:=fun x y=>by rw [zge,zge]; exact (zaB zaS (zaB zaS zaS)).swap _ _
 trans:=fun x y z=>by rw [zge,zge,zge]; exact (zaB zaS (zaB zaS zaS)).trans _ _ _
 zero:=fun x y h=>by rw [zge] at h; exact zB1 ((zaB zaS (zaB zaS zaS)).zero _ _ h)
def lkC (x:Lk):List GV:=[.str (mkB x.f),.str (mkB x.t),.str (mkB x.y)]
end Go.Sh
