/- Own work: the zaN machine and what it shows, part Vp. -/
import Derived.Lib.Split
import Derived.Lib.AtoiAll
import Derived.Lib.ItoaNum
import Derived.Test.YtchjbidfmhmmhaaGreatDoorShA
import Derived.Lib.IndexMore
import Derived.Lib.Join
import Derived.Test.YtchjbidfmhmmhaaGreatDoorShH
set_option linter.all false
namespace Go.Sh
open Go
def zbO (c:UInt8):List UInt8→List (List UInt8)
  | []=>[[]]
  | b::l=>if b=c then []::zbO c l else match zbO c l with
    | []=>[[b]]
    | p::ps=>(b::p)::ps
theorem zcL {s:List UInt8} {c:UInt8} {i:Nat} (h:Lib.index s [c]=i):Lib.split s [c]=s.take i::Lib.split (s.drop (i+1)) [c]:=by
  have hm:¬ (Lib.index s [c] == -1)=true:=fun e=>by have:=beq_iff_eq.1 e; omega
  have e:(Lib.index s [c]).toNat=i:=by omega
  unfold Lib.split
  rw [Lib.count_hit (by simp) h,Nat.add_comm 1,Lib.splitK,if_neg hm,e]
  simp
theorem zcq {s:List UInt8} {c:UInt8} (h:Lib.index s [c]=-1):Lib.split s [c]=[s]:=by
  unfold Lib.split
  rw [Lib.count_miss h]; rfl
theorem zlS (c:UInt8):∀ s:List UInt8,Lib.split s [c]=zbO c s
  | []=>by rw [zcq (by simp [Lib.index])]; rfl
  | b::l=>by
    have ih:=zlS c l
    unfold zbO
    by_cases hb:b=c
    · subst hb
      rw [if_pos rfl,zcL (i:=0) (by simp [Lib.index,List.isPrefixOf])]
      simp [ih]
    · rw [if_neg hb]
      have hp:List.isPrefixOf [c] (b::l)=false:=by simp [List.isPrefixOf]; exact fun h=>hb h.symm
      by_cases hi:Lib.index l [c]=-1
      · rw [zcq (by simp [Lib.index,hp,hi]),← ih,zcq hi]
      · have hge:=Lib.index_ge l [c]
        obtain ⟨i,hi'⟩:∃ i:Nat,Lib.index l [c]=i:=⟨(Lib.index l [c]).toNat,by omega⟩
        rw [zcL (i:=i+1) (by simp [Lib.index,hp,hi']),← ih,zcL hi']
        simp
def zcO (c:UInt8):Bool:=decide (97≤c.toNat∧c.toNat≤122∨65≤c.toNat∧c.toNat≤90)
def zdP (c:UInt8):Bool:=zcO c || decide (48≤c.toNat∧c.toNat≤57∨c.toNat=95)
def zaB (l:List UInt8):Bool:=decide (1≤l.length∧l.length≤16)&&(match l with | []=>false | c::_=>zcO c)&&l.all zdP
def zlT (l:List UInt8):Bool:=l.all (fun c=>decide (32≤c.toNat∧c.toNat≤126))&&decide (l.length≤64)
def zfq (l:List UInt8):Option (List UInt8 × List UInt8 × List UInt8):=match zbO 62 l with
  | [a,b,c]=>if zaB a&&zaB b&&zaB c then some (a,b,c) else none
  | _=>none
def zit (k n:Int) (l:List UInt8):Bool :=
  if k=0 then decide (n=0∧l=[])
  else if k=1 then decide ((n=0∨n=1)∧l=[])
  else if k=2 then decide (-1099511627776≤n∧n≤1099511627776∧l=[])
  else if k=3 then decide (n=0)&&zlT l
  else if k=4 then decide (n=0)&&zaB l
  else if k=5 then decide (n=0)&&(zfq l).isSome
  else false
def zD0:List UInt8→List UInt8
  | []=>[]
  | c::l=>if c=39∨c=92 then 92::c::zD0 l else c::zD0 l
def zEB (k n:Int) (l:List UInt8):List UInt8 :=
  if k=0 then [110,117,108,108]
  else if k=1 then if n=1 then [116,114,117,101] else [102,97,108,115,101]
  else if k=2 then Lib.itoa n
  else if k=3 then 39::(zD0 l++[39])
  else if k=4 then 40::(l++[41])
  else 91::(l++[93])
def zEg (k n:Int) (l:List UInt8):List UInt8:=if zit k n l then zEB k n l else []
end Go.Sh
namespace Go.Sh
open Go
theorem dec_ne (u:Nat):Lib.decDigits u≠[]:=by
  intro h
  have:=Lib.decDigits_length u
  have h2:=Lib.nDigits_pos u
  rw [h] at this; simp at this; omega
end Go.Sh
namespace Go.Sh
open Go
def zD1:List UInt8→List UInt8
  | c::d::l=>if c=92 then d::zD1 l else c::zD1 (d::l)
  | _=>[]
def mid (l:List UInt8):List UInt8:=(l.drop 1).take (l.length - 2)
def zD2 (l:List UInt8):Int:=numCase (Lib.atoiAll l) (fun v=>v) 0 (Lib.atoiSat l)
def zxb (l:List UInt8):Int × Int × List UInt8 :=
  if l=[116,114,117,101] then (1,1,[])
  else if l=[102,97,108,115,101] then (1,0,[])
  else if l=[110,117,108,108]∨l=[] then (0,0,[])
  else if 1<l.length∧l.head?=some 39 then (3,0,zD1 (l.drop 1))
  else if 1<l.length∧l.head?=some 40 then (4,0,mid l)
  else if 1<l.length∧l.head?=some 91 then (5,0,mid l)
  else (2,zD2 l,[])
def zEC (v:Int × Int × List UInt8):List UInt8:=zEg v.1 v.2.1 v.2.2
def zBR (l:List UInt8):Option (Int × Int × List UInt8):=if l≠[]∧zEC (zxb l)=l then some (zxb l) else none
end Go.Sh
namespace Go.Sh
open Go
def w1 (l:List UInt8):List UInt8:=(Lib.cut l [32]).1
def r1 (l:List UInt8):List UInt8:=(Lib.cut l [32]).2.1
def zED:List (List UInt8):=[[],[97,100,100],[114,101,109,111,118,101],[115,101,116],[99,108,101,97,114]]
def zEE:List (List UInt8):=[[],[110,111,100,101],[108,97,98,101,108],[101,100,103,101],[112,114,111,112],[116,114,97,105,116]]
def zEh (L:List (List UInt8)) (k:Int):List UInt8:=L.getD k.toNat []
structure Chg where
  op:Int
  ek:Int
  a:List UInt8
  b:List UInt8
  c:List UInt8
  d:List UInt8
  vk:Int
  vn:Int
  vt:List UInt8
def Chg.zero:Chg:=⟨0,0,[],[],[],[],0,0,[]⟩
def zbr (k:Int) (a b c d:List UInt8):Bool :=
  if k=1 then zaB a&&decide (b=[]∧c=[]∧d=[])
  else if k=2∨k=4 then zaB a&&zaB d&&decide (b=[]∧c=[])
  else if k=3 then zaB a&&zaB b&&zaB c&&decide (d=[])
  else if k=5 then zaB a&&zaB b&&zaB c&&zaB d
  else false
def Chg.none (x:Chg):Bool:=decide (x.vk=0∧x.vn=0∧x.vt=[])
def zBS (k:Int) (a b c d:List UInt8):List (List UInt8):=if k=1 then [a] else if k=3 then [a,c,b] else if k=5 then [a,c,b,d] else [a,d]
def Chg.text (x:Chg):List UInt8:=Lib.join (zEh zED x.op::zEh zEE x.ek::(zBS x.ek x.a x.b x.c x.d++(if x.none then [] else [zEg x.vk x.vn x.vt]))) [32]
def Chg.of (op ek:Int) (p:List UInt8 × List UInt8 × List UInt8 × List UInt8 × List UInt8):Chg :=
  let v:=if op=3 then (zBR p.2.2.2.2).getD (0,0,[]) else (0,0,[])
  ⟨op,ek,p.1,p.2.1,p.2.2.1,p.2.2.2.1,v.1,v.2.1,v.2.2⟩
theorem ziu {k:Int} {a b c d:List UInt8} (h:zbr k a b c d=true):k=1∨k=2∨k=3∨k=4∨k=5:=by
  unfold zbr at h
  split at h
  · omega
  · split at h
    · omega
    · split at h
      · omega
      · split at h
        · omega
        · cases h
end Go.Sh
namespace Go.Sh
structure Lk where
  f:List UInt8
  t:List UInt8
  y:List UInt8
  deriving DecidableEq
instance:DecidableEq El:=fun x y =>
  if h:elK x=elK y then .isTrue (ztL h) else .isFalse fun e=>h (e ▸ rfl)
abbrev zaT (a:List UInt8):El:=⟨1,a,[],[],[]⟩
abbrev zcM (x:Lk):El:=⟨3,x.f,x.t,x.y,[]⟩
abbrev zch (e:El):Lk:=⟨e.a,e.b,e.c⟩
def zan (e:El):El:=if e.k=5 then zcM (zch e) else zaT e.a
def ze4 {α β:Type} [DecidableEq α] (f:α→β) (a:α) (b:β):α→β:=fun x=>if x=a then b else f x
structure Vw where
  nodes:List (List UInt8)
  links:List Lk
  labels:List UInt8→List (List UInt8)
  values:El→List Vl
  names:El→List (List UInt8)
  there:El→Bool
def Vw.none:Vw:=⟨[],[],fun _=>[],fun _=>[],fun _=>[],fun _=>false⟩
def ziv (vals:El→List Vl) (w:Vw) (e:El):Vw :=
  if e.k=1 then { w with there:=ze4 w.there e true,nodes:=w.nodes++[e.a] }
  else if e.k=2 then if w.there (zaT e.a) then { w with labels:=ze4 w.labels e.a (w.labels e.a++[e.d]) } else w
  else if e.k=3 then if w.there (zaT e.a)&&w.there (zaT e.b) then { w with there:=ze4 w.there e true,links:=w.links++[zch e] } else w
  else if e.k=4∨e.k=5 then if w.there (zan e) then { w with values:=ze4 w.values e (vals e),names:=ze4 w.names (zan e) (w.names (zan e)++[e.d]) } else w
  else w
def zdR (vals:El→List Vl) (G:List El):Vw:=G.foldl (ziv vals) .none
def zaH (G:List El) (x:El):Bool:=decide (x∈G)&&(decide (x.k=1) || (decide (x.k=3)&&(decide (zaT x.a∈G)&&decide (zaT x.b∈G))))
def zaG (vals:El→List Vl) (G A:List El):Vw where
  nodes:=(A.filter fun e=>decide (e.k=1)).map (·.a)
  links:=(A.filter fun e=>decide (e.k=3)&&zaH G e).map zch
  labels:=fun key=>(A.filter fun e=>decide (e.k=2∧e.a=key)&&zaH G (zaT key)).map (·.d)
  values:=fun x=>if decide (x∈A)&&(decide (x.k=4∨x.k=5)&&zaH G (zan x)) then vals x else []
  names:=fun o=>(A.filter fun e=>decide ((e.k=4∨e.k=5)∧zan e=o)&&zaH G o).map (·.d)
  there:=fun x=>decide (x∈A)&&zaH G x
theorem Vw.ext' {a b:Vw} (h1:a.nodes=b.nodes) (h2:a.links=b.links) (h3:a.labels=b.labels) (h4:a.values=b.values) (h5:a.names=b.names) (h6:a.there=b.there):a=b:=by
  cases a; cases b; simp only [Vw.mk.injEq] at *; exact ⟨h1,h2,h3,h4,h5,h6⟩
theorem zwN {x y:El} (h:zdo x y<0):x.k≤y.k:=by
  rcases Int.lt_or_le y.k x.k with h' | h'
  · have:zc7 x.k y.k=1:=by unfold zc7; rw [if_neg (by omega),if_pos h']
    simp [zdo,orL,this] at h
  · exact h'
theorem zBT {A B:List El} {e:El} (hs:(A++e::B).Pairwise fun a b=>zdo a b<0) {x:El} (hk:x.k<e.k):decide (x∈A)=decide (x∈A++e::B):=by
  rw [decide_eq_decide]
  refine ⟨fun h=>List.mem_append_left _ h,fun h=>?_⟩
  rcases List.mem_append.1 h with h | h
  · exact h
  · exfalso
    rw [List.pairwise_append] at hs
    rcases List.mem_cons.1 h with rfl | h
    · omega
    · have:=zwN ((List.pairwise_cons.1 hs.2.1).1 x h); omega
theorem zt6 (vals:El→List Vl) {G A B:List El} {e:El} (hG:G=A++e::B) (hs:G.Pairwise fun a b=>zdo a b<0) :
    ziv vals (zaG vals G A) e=zaG vals G (A++[e]):=by
  have hs':=hs
  rw [hG] at hs'
  have low:∀ x:El,x.k<e.k→decide (x∈A)=decide (x∈G):=fun x hk=>by rw [hG]; exact zBT hs' hk
  have heA:e ∉ A:=fun h=>by
    have:=(List.pairwise_append.1 hs').2.2 e h e List.mem_cons_self
    rw [ordE_ok.self] at this
    omega
  have heG:e∈G:=by rw [hG]; simp
  have thn:∀ a,1<e.k→(zaG vals G A).there (zaT a)=zaH G (zaT a):=fun a hk=>by
    simp only [zaG,low (zaT a) hk,zaH]
    cases decide (zaT a∈G) <;> rfl
  have mem:∀ x:El,decide (x∈A++[e])=(decide (x∈A) || decide (x=e)):=fun x=>by simp [List.mem_append]
  by_cases k1:e.k=1
  · have hth:zaH G e=true:=by simp [zaH,heG,k1]
    rw [ziv,if_pos k1]
    apply Vw.ext'
    · simp [zaG,List.filter_append,List.filter_cons,k1]
    · simp [zaG,List.filter_append,List.filter_cons,k1]
    · funext key; simp [zaG,List.filter_append,List.filter_cons,k1]
    · funext x
      simp only [zaG,mem]
      by_cases hx:x=e
      · subst hx; simp [k1]
      · simp [hx]
    · funext o; simp [zaG,List.filter_append,List.filter_cons,k1]
    · funext x
      simp only [zaG,mem,ze4]
      by_cases hx:x=e
      · subst hx; simp [hth]
      · simp [hx]
  by_cases k2:e.k=2
  · rw [ziv,if_neg k1,if_pos k2,thn e.a (by omega)]
    have hn:∀ x,(decide (x∈A++[e])&&zaH G x)=(decide (x∈A)&&zaH G x):=fun x=>by
      rw [mem]
      by_cases hx:x=e
      · subst hx; simp [zaH,k2]
      · simp [hx]
    have hv:∀ x:El,(decide (x∈A++[e])&&(decide (x.k=4∨x.k=5)&&zaH G (zan x)))=(decide (x∈A)&&(decide (x.k=4∨x.k=5)&&zaH G (zan x))):=fun x=>by
      rw [mem]
      by_cases hx:x=e
      · subst hx; simp [k2]
      · simp [hx]
    by_cases ht:zaH G (zaT e.a)=true
    · rw [if_pos ht]
      apply Vw.ext'
      · simp [zaG,List.filter_append,List.filter_cons,k2]
      · simp [zaG,List.filter_append,List.filter_cons,k2]
      · funext key
        simp only [zaG,ze4,List.filter_append,List.filter_cons,List.filter_nil,k2,List.map_append]
        by_cases hk:key=e.a
        · subst hk; simp [ht]
        · have hk':¬ e.a=key:=fun h=>hk h.symm
          simp [hk,hk']
      · funext x; simp only [zaG,hv]
      · funext o; simp [zaG,List.filter_append,List.filter_cons,k2]
      · funext x; simp only [zaG,hn]
    · rw [if_neg ht]
      have ht:zaH G (zaT e.a)=false:=by simpa using ht
      apply Vw.ext'
      · simp [zaG,List.filter_append,List.filter_cons,k2]
      · simp [zaG,List.filter_append,List.filter_cons,k2]
      · funext key
        simp only [zaG,List.filter_append,List.filter_cons,List.filter_nil,k2,List.map_append]
        by_cases hk:e.a=key
        · subst hk; simp [ht]
        · simp [hk]
      · funext x; simp only [zaG,hv]
      · funext o; simp [zaG,List.filter_append,List.filter_cons,k2]
      · funext x; simp only [zaG,hn]
  by_cases k3:e.k=3
  · rw [ziv,if_neg k1,if_neg k2,if_pos k3,thn e.a (by omega),thn e.b (by omega)]
    have hv:∀ x:El,(decide (x∈A++[e])&&(decide (x.k=4∨x.k=5)&&zaH G (zan x)))=(decide (x∈A)&&(decide (x.k=4∨x.k=5)&&zaH G (zan x))):=fun x=>by
      rw [mem]
      by_cases hx:x=e
      · subst hx; simp [k3]
      · simp [hx]
    have hth:zaH G e=(zaH G (zaT e.a)&&zaH G (zaT e.b)):=by simp [zaH,heG,k3]
    by_cases ht:(zaH G (zaT e.a)&&zaH G (zaT e.b))=true
    · rw [if_pos ht]
      rw [ht] at hth
      apply Vw.ext'
      · simp [zaG,List.filter_append,List.filter_cons,k3]
      · simp [zaG,List.filter_append,List.filter_cons,k3,hth]
      · funext key; simp [zaG,List.filter_append,List.filter_cons,k3]
      · funext x; simp only [zaG,hv]
      · funext o; simp [zaG,List.filter_append,List.filter_cons,k3]
      · funext x
        simp only [zaG,mem,ze4]
        by_cases hx:x=e
        · subst hx; simp [hth]
        · simp [hx]
    · rw [if_neg ht]
      have ht:(zaH G (zaT e.a)&&zaH G (zaT e.b))=false:=by simpa using ht
      rw [ht] at hth
      apply Vw.ext'
      · simp [zaG,List.filter_append,List.filter_cons,k3]
      · simp [zaG,List.filter_append,List.filter_cons,k3,hth]
      · funext key; simp [zaG,List.filter_append,List.filter_cons,k3]
      · funext x; simp only [zaG,hv]
      · funext o; simp [zaG,List.filter_append,List.filter_cons,k3]
      · funext x
        simp only [zaG,mem]
        by_cases hx:x=e
        · subst hx; simp [hth]
        · simp [hx]
  by_cases k4:e.k=4∨e.k=5
  · rw [ziv,if_neg k1,if_neg k2,if_neg k3,if_pos k4]
    have ow:(zaG vals G A).there (zan e)=zaH G (zan e):=by
      rcases k4 with k | k
      · have:zan e=zaT e.a:=by simp [zan,k]
        rw [this]; exact thn _ (by omega)
      · have:zan e=zcM (zch e):=by simp [zan,k]
        rw [this]
        simp only [zaG,low (zcM (zch e)) (show (3:Int)<e.k by omega),zaH]
        cases decide (zcM (zch e)∈G) <;> rfl
    have hn:∀ x,(decide (x∈A++[e])&&zaH G x)=(decide (x∈A)&&zaH G x):=fun x=>by
      rw [mem]
      by_cases hx:x=e
      · subst hx; simp [zaH,k1,k3]
      · simp [hx]
    rw [ow]
    by_cases ht:zaH G (zan e)=true
    · rw [if_pos ht]
      apply Vw.ext'
      · simp [zaG,List.filter_append,List.filter_cons,k1]
      · simp [zaG,List.filter_append,List.filter_cons,k3]
      · funext key; simp [zaG,List.filter_append,List.filter_cons,k2]
      · funext x
        simp only [zaG,mem,ze4]
        by_cases hx:x=e
        · subst hx; simp [ht,k4]
        · simp [hx]
      · funext o
        simp only [zaG,ze4,List.filter_append,List.filter_cons,List.filter_nil,List.map_append]
        by_cases hk:o=zan e
        · subst hk; simp [ht,k4]
        · have hk':¬ zan e=o:=fun h=>hk h.symm
          simp [hk,hk']
      · funext x; simp only [zaG,hn]
    · rw [if_neg ht]
      have ht:zaH G (zan e)=false:=by simpa using ht
      apply Vw.ext'
      · simp [zaG,List.filter_append,List.filter_cons,k1]
      · simp [zaG,List.filter_append,List.filter_cons,k3]
      · funext key; simp [zaG,List.filter_append,List.filter_cons,k2]
      · funext x
        simp only [zaG,mem]
        by_cases hx:x=e
        · subst hx; simp [ht]
        · simp [hx]
      · funext o
        simp only [zaG,List.filter_append,List.filter_cons,List.filter_nil,List.map_append]
        by_cases hk:zan e=o
        · subst hk; simp [ht]
        · simp [hk]
      · funext x; simp only [zaG,hn]
  · rw [ziv,if_neg k1,if_neg k2,if_neg k3,if_neg k4]
    have hn:∀ x,(decide (x∈A++[e])&&zaH G x)=(decide (x∈A)&&zaH G x):=fun x=>by
      rw [mem]
      by_cases hx:x=e
      · subst hx; simp [zaH,k1,k3]
      · simp [hx]
    apply Vw.ext'
    · simp [zaG,List.filter_append,List.filter_cons,k1]
    · simp [zaG,List.filter_append,List.filter_cons,k3]
    · funext key; simp [zaG,List.filter_append,List.filter_cons,k2]
    · funext x
      simp only [zaG,mem]
      by_cases hx:x=e
      · subst hx; simp [k4]
      · simp [hx]
    · funext o; simp [zaG,List.filter_append,List.filter_cons,k4]
    · funext x; simp only [zaG,hn]
theorem zwO (vals:El→List Vl) {G:List El} (hs:G.Pairwise fun a b=>zdo a b<0):zdR vals G=zaG vals G G:=by
  have:∀ (B A:List El),G=A++B→B.foldl (ziv vals) (zaG vals G A)=zaG vals G G:=by
    intro B
    induction B with
    | nil=>intro A h; rw [List.append_nil] at h; rw [← h]; rfl
    | cons e B ih =>
      intro A h
      rw [List.foldl_cons,zt6 vals h hs]
      exact ih (A++[e]) (by rw [h]; simp)
  have h0:zaG vals G []=.none:=by
    apply Vw.ext' <;> simp [zaG,Vw.none]
  have:=this G [] rfl
  rw [h0] at this
  exact this
def lkK (x:Lk):List UInt8 × List UInt8 × List UInt8:=(x.f,x.y,x.t)
theorem zyM {x y:Lk} (h:lkK x=lkK y):x=y:=by
  cases x; cases y; simp only [lkK,Prod.mk.injEq] at h; simp [h]
def zfs (x y:Lk):Int:=orL [zcc x.f y.f,zcc x.y y.y,zcc x.t y.t]
theorem zfr (x y:Lk):zfs x y=zdX zcc (zdX zcc zcc) (lkK x) (lkK y):=by
  simp only [zfs,orL,zdX,lkK]
  by_cases h1:zcc x.f y.f=0
  · by_cases h2:zcc x.y y.y=0
    · by_cases h3:zcc x.t y.t=0 <;> simp [h1,h2,h3]
    · simp [h1,h2]
  · simp [h1]
theorem ordL_ok:CmpOk zfs where
  self:=fun x=>by rw [zfr]; exact (zau zaL (zau zaL zaL)).self _
  swap:=fun x y=>by rw [zfr,zfr]; exact (zau zaL (zau zaL zaL)).swap _ _
  trans:=fun x y z=>by rw [zfr,zfr,zfr]; exact (zau zaL (zau zaL zaL)).trans _ _ _
  zero:=fun x y h=>by rw [zfr] at h; exact zyM ((zau zaL (zau zaL zaL)).zero _ _ h)
def lkC (x:Lk):List GV:=[.str (mkB x.f),.str (mkB x.t),.str (mkB x.y)]
end Go.Sh
