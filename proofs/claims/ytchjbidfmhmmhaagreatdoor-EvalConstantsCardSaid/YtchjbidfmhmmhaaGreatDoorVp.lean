/- Own work: the zaH machine and what it shows, part Vp. -/
import Derived.Lib.Split
import Derived.Lib.AtoiAll
import Derived.Lib.ItoaNum
import Derived.Test.YtchjbidfmhmmhaaGreatDoorShA
import Derived.Lib.IndexMore
import Derived.Lib.Join
import Derived.Test.YtchjbidfmhmmhaaGreatDoorShH
set_option linter.all false
namespace Go.Sh
open Go
def zbC (c:UInt8):List UInt8 → List (List UInt8)
  | [] => [[]]
  | b :: l => if b = c then [] :: zbC c l else match zbC c l with
    | [] => [[b]]
    | p :: ps => (b :: p) :: ps
theorem zcv {s:List UInt8} {c:UInt8} {i:Nat} (h:Lib.index s [c] = i):Lib.split s [c] = s.take i :: Lib.split (s.drop (i + 1)) [c] := by
  have hm:¬ (Lib.index s [c] == -1) = true := fun e => by have := beq_iff_eq.1 e; omega
  have e:(Lib.index s [c]).toNat = i := by omega
  unfold Lib.split
  rw [Lib.count_hit (by simp) h,Nat.add_comm 1,Lib.splitK,if_neg hm,e]
  simp
theorem zcb {s:List UInt8} {c:UInt8} (h:Lib.index s [c] = -1):Lib.split s [c] = [s] := by
  unfold Lib.split
  rw [Lib.count_miss h]; rfl
theorem zkz (c:UInt8):∀ s:List UInt8,Lib.split s [c] = zbC c s
  | [] => by rw [zcb (by simp [Lib.index])]; rfl
  | b :: l => by
    have ih := zkz c l
    unfold zbC
    by_cases hb:b = c
    · subst hb
      rw [if_pos rfl,zcv (i := 0) (by simp [Lib.index,List.isPrefixOf])]
      simp [ih]
    · rw [if_neg hb]
      have hp:List.isPrefixOf [c] (b :: l) = false := by simp [List.isPrefixOf]; exact fun h => hb h.symm
      by_cases hi:Lib.index l [c] = -1
      · rw [zcb (by simp [Lib.index,hp,hi]),← ih,zcb hi]
      · have hge := Lib.index_ge l [c]
        obtain ⟨i,hi'⟩:∃ i:Nat,Lib.index l [c] = i := ⟨(Lib.index l [c]).toNat,by omega⟩
        rw [zcv (i := i + 1) (by simp [Lib.index,hp,hi']),← ih,zcv hi']
        simp
def zcw (c:UInt8):Bool := decide (97 ≤ c.toNat ∧ c.toNat ≤ 122 ∨ 65 ≤ c.toNat ∧ c.toNat ≤ 90)
def zdt (c:UInt8):Bool := zcw c || decide (48 ≤ c.toNat ∧ c.toNat ≤ 57 ∨ c.toNat = 95)
def zaJ (l:List UInt8):Bool := decide (1 ≤ l.length ∧ l.length ≤ 16) && (match l with | [] => false | c :: _ => zcw c) && l.all zdt
def zkA (l:List UInt8):Bool := l.all (fun c => decide (32 ≤ c.toNat ∧ c.toNat ≤ 126)) && decide (l.length ≤ 64)
def zeI (l:List UInt8):Option (List UInt8 × List UInt8 × List UInt8) := match zbC 62 l with
  | [a,b,c] => if zaJ a && zaJ b && zaJ c then some (a,b,c) else none
  | _ => none
def zbO (k n:Int) (l:List UInt8):Bool :=
  if k = 0 then decide (n = 0 ∧ l = [])
  else if k = 1 then decide ((n = 0 ∨ n = 1) ∧ l = [])
  else if k = 2 then decide (-1099511627776 ≤ n ∧ n ≤ 1099511627776 ∧ l = [])
  else if k = 3 then decide (n = 0) && zkA l
  else if k = 4 then decide (n = 0) && zaJ l
  else if k = 5 then decide (n = 0) && (zeI l).isSome
  else false
def zBC:List UInt8 → List UInt8
  | [] => []
  | c :: l => if c = 39 ∨ c = 92 then 92 :: c :: zBC l else c :: zBC l
def zCm (k n:Int) (l:List UInt8):List UInt8 :=
  if k = 0 then [110,117,108,108]
  else if k = 1 then if n = 1 then [116,114,117,101] else [102,97,108,115,101]
  else if k = 2 then Lib.itoa n
  else if k = 3 then 39 :: (zBC l ++ [39])
  else if k = 4 then 40 :: (l ++ [41])
  else 91 :: (l ++ [93])
def zB1 (k n:Int) (l:List UInt8):List UInt8 := if zbO k n l then zCm k n l else []
end Go.Sh
namespace Go.Sh
open Go
theorem dec_ne (u:Nat):Lib.decDigits u ≠ [] := by
  intro h
  have := Lib.decDigits_length u
  have h2 := Lib.nDigits_pos u
  rw [h] at this; simp at this; omega
end Go.Sh
namespace Go.Sh
open Go
def zBD:List UInt8 → List UInt8
  | c :: d :: l => if c = 92 then d :: zBD l else c :: zBD (d :: l)
  | _ => []
def mid (l:List UInt8):List UInt8 := (l.drop 1).take (l.length - 2)
def zBE (l:List UInt8):Int := numCase (Lib.atoiAll l) (fun v => v) 0 (Lib.atoiSat l)
def zu4 (l:List UInt8):Int × Int × List UInt8 :=
  if l = [116,114,117,101] then (1,1,[])
  else if l = [102,97,108,115,101] then (1,0,[])
  else if l = [110,117,108,108] ∨ l = [] then (0,0,[])
  else if 1 < l.length ∧ l.head? = some 39 then (3,0,zBD (l.drop 1))
  else if 1 < l.length ∧ l.head? = some 40 then (4,0,mid l)
  else if 1 < l.length ∧ l.head? = some 91 then (5,0,mid l)
  else (2,zBE l,[])
def zCn (v:Int × Int × List UInt8):List UInt8 := zB1 v.1 v.2.1 v.2.2
def zzz (l:List UInt8):Option (Int × Int × List UInt8) := if l ≠ [] ∧ zCn (zu4 l) = l then some (zu4 l) else none
end Go.Sh
namespace Go.Sh
open Go
def w1 (l:List UInt8):List UInt8 := (Lib.cut l [32]).1
def r1 (l:List UInt8):List UInt8 := (Lib.cut l [32]).2.1
def zCo:List (List UInt8) := [[],[97,100,100],[114,101,109,111,118,101],[115,101,116],[99,108,101,97,114]]
def zCp:List (List UInt8) := [[],[110,111,100,101],[108,97,98,101,108],[101,100,103,101],[112,114,111,112],[116,114,97,105,116]]
def zB2 (L:List (List UInt8)) (k:Int):List UInt8 := L.getD k.toNat []
structure Chg where
  op:Int
  ek:Int
  a:List UInt8
  b:List UInt8
  c:List UInt8
  d:List UInt8
  vk:Int
  vn:Int
  vt:List UInt8
def Chg.zero:Chg := ⟨0,0,[],[],[],[],0,0,[]⟩
def zcM (k:Int) (a b c d:List UInt8):Bool :=
  if k = 1 then zaJ a && decide (b = [] ∧ c = [] ∧ d = [])
  else if k = 2 ∨ k = 4 then zaJ a && zaJ d && decide (b = [] ∧ c = [])
  else if k = 3 then zaJ a && zaJ b && zaJ c && decide (d = [])
  else if k = 5 then zaJ a && zaJ b && zaJ c && zaJ d
  else false
def Chg.none (x:Chg):Bool := decide (x.vk = 0 ∧ x.vn = 0 ∧ x.vt = [])
def zzA (k:Int) (a b c d:List UInt8):List (List UInt8) := if k = 1 then [a] else if k = 3 then [a,c,b] else if k = 5 then [a,c,b,d] else [a,d]
def Chg.text (x:Chg):List UInt8 := Lib.join (zB2 zCo x.op :: zB2 zCp x.ek :: (zzA x.ek x.a x.b x.c x.d ++ (if x.none then [] else [zB1 x.vk x.vn x.vt]))) [32]
def Chg.of (op ek:Int) (p:List UInt8 × List UInt8 × List UInt8 × List UInt8 × List UInt8):Chg :=
  let v := if op = 3 then (zzz p.2.2.2.2).getD (0,0,[]) else (0,0,[])
  ⟨op,ek,p.1,p.2.1,p.2.2.1,p.2.2.2.1,v.1,v.2.1,v.2.2⟩
theorem zhj {k:Int} {a b c d:List UInt8} (h:zcM k a b c d = true):k = 1 ∨ k = 2 ∨ k = 3 ∨ k = 4 ∨ k = 5 := by
  unfold zcM at h
  split at h
  · omega
  · split at h
    · omega
    · split at h
      · omega
      · split at h
        · omega
        · cases h
end Go.Sh
namespace Go.Sh
structure Lk where
  f:List UInt8
  t:List UInt8
  y:List UInt8
  deriving DecidableEq
instance:DecidableEq El := fun x y =>
  if h:elK x = elK y then .isTrue (zrA h) else .isFalse fun e => h (e ▸ rfl)
abbrev zb7 (a:List UInt8):El := ⟨1,a,[],[],[]⟩
abbrev zzB (x:Lk):El := ⟨3,x.f,x.t,x.y,[]⟩
abbrev zrV (e:El):Lk := ⟨e.a,e.b,e.c⟩
def zaK (e:El):El := if e.k = 5 then zzB (zrV e) else zb7 e.a
def zfR {α β:Type} [DecidableEq α] (f:α → β) (a:α) (b:β):α → β := fun x => if x = a then b else f x
structure Vw where
  nodes:List (List UInt8)
  links:List Lk
  labels:List UInt8 → List (List UInt8)
  values:El → List Vl
  names:El → List (List UInt8)
  there:El → Bool
def Vw.none:Vw := ⟨[],[],fun _ => [],fun _ => [],fun _ => [],fun _ => false⟩
def zkL (vals:El → List Vl) (w:Vw) (e:El):Vw :=
  if e.k = 1 then { w with there := zfR w.there e true,nodes := w.nodes ++ [e.a] }
  else if e.k = 2 then if w.there (zb7 e.a) then { w with labels := zfR w.labels e.a (w.labels e.a ++ [e.d]) } else w
  else if e.k = 3 then if w.there (zb7 e.a) && w.there (zb7 e.b) then { w with there := zfR w.there e true,links := w.links ++ [zrV e] } else w
  else if e.k = 4 ∨ e.k = 5 then if w.there (zaK e) then { w with values := zfR w.values e (vals e),names := zfR w.names (zaK e) (w.names (zaK e) ++ [e.d]) } else w
  else w
def zdZ (vals:El → List Vl) (G:List El):Vw := G.foldl (zkL vals) .none
theorem Vw.ext' {a b:Vw} (h1:a.nodes = b.nodes) (h2:a.links = b.links) (h3:a.labels = b.labels) (h4:a.values = b.values) (h5:a.names = b.names) (h6:a.there = b.there):a = b := by
  cases a; cases b; simp only [Vw.mk.injEq] at *; exact ⟨h1,h2,h3,h4,h5,h6⟩
def lkK (x:Lk):List UInt8 × List UInt8 × List UInt8 := (x.f,x.y,x.t)
theorem zwz {x y:Lk} (h:lkK x = lkK y):x = y := by
  cases x; cases y; simp only [lkK,Prod.mk.injEq] at h; simp [h]
def zfn (x y:Lk):Int := orL [zcJ x.f y.f,zcJ x.y y.y,zcJ x.t y.t]
theorem zeJ (x y:Lk):zfn x y = zdz zcJ (zdz zcJ zcJ) (lkK x) (lkK y) := by
  simp only [zfn,orL,zdz,lkK]
  by_cases h1:zcJ x.f y.f = 0
  · by_cases h2:zcJ x.y y.y = 0
    · by_cases h3:zcJ x.t y.t = 0 <;> simp [h1,h2,h3]
    · simp [h1,h2]
  · simp [h1]
theorem ordL_ok:CmpOk zfn where
  self := fun x => by rw [zeJ]; exact (zaq zaI (zaq zaI zaI)).self _
  swap := fun x y => by rw [zeJ,zeJ]; exact (zaq zaI (zaq zaI zaI)).swap _ _
  trans := fun x y z => by rw [zeJ,zeJ,zeJ]; exact (zaq zaI (zaq zaI zaI)).trans _ _ _
  zero := fun x y h => by rw [zeJ] at h; exact zwz ((zaq zaI (zaq zaI zaI)).zero _ _ h)
def lkC (x:Lk):List GV := [.str (mkB x.f),.str (mkB x.t),.str (mkB x.y)]
end Go.Sh
