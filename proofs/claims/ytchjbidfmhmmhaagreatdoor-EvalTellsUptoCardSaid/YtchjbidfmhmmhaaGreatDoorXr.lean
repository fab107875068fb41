/- Own work: the zaM machine and what it shows, part Xr. -/
import Derived.Test.YtchjbidfmhmmhaaGreatDoorXq
import Derived.Test.YtchjbidfmhmmhaaGreatDoorGz
set_option linter.all false
namespace Go.Proofs.YtchjbidfmhmmhaaGreatDoor
open Go.Sh
set_option maxHeartbeats 4000000
set_option maxRecDepth 100000
theorem zcy (b:Bool) (H:GH):ecall T zjs [.bool b] H=some (.agg (vlC (zcr b)),H):=by
 apply optW.eq
 rw [zae zGU rfl (by simp [ztN]),zab]
 cases b <;> simp [ztN,zDr,zaf,zaa,vlC]
def zcn (n:Int):Int:=if n < -1099511627776 then -1099511627776 else if 1099511627776<n then 1099511627776 else n
theorem zkB (n:Int):zqk n=⟨2,zcn n,[]⟩:=by
 unfold zqk zcn
 congr 1
 split <;> (try split) <;> omega
theorem zjp (n:Int) (H:GH):ecall T zqH [.int .i64 n] H=some (.int .i64 (zcn n),H):=by
 apply optW.eq
 rw [zae zGX rfl (by simp [znZ]),zab]
 unfold zcn
 by_cases h1:n < -1099511627776
 ·simp [znZ,zyd,h1]
 ·by_cases h2:1099511627776<n
  ·simp [znZ,zyd,h1,h2]
  ·simp [znZ,zyd,h1,h2]
theorem zpe (a b:Vl) (d:Bool) (H:GH):ecall T zs4 [.agg (vlC a),.agg (vlC b),.bool d] H=some (.agg (vlC (zfQ a b d)),H):=by
 have hb1:=fun H=>zcy d H
 have hb2:=fun H=>zcy (!d) H
 have s1:=zay (zcr d)
 have s2:=zay (zcr (!d))
 apply optW.eq
 rw [zae zGV rfl (by simp [zkP]),zab]
 unfold zfQ
 generalize zcr d=y at *
 generalize zcr (!d)=z at *
 by_cases q1:a=y
 ·simp [zkP,zqT,zaf,zak,zah,zal,s1,s2,zay,hb1,hb2,zaj,q1]
 ·by_cases q2:b=y
  ·simp [zkP,zqT,zaf,zak,zah,zal,s1,s2,zay,hb1,hb2,zaj,q1,q2]
  ·by_cases q3:a=z
   ·have q5:¬ z=y:=fun h=>q1 (q3.trans h)
    by_cases q4:b=z
    ·simp [zkP,zqT,zaf,zak,zah,zal,s1,s2,zay,hb1,hb2,zaj,q1,q2,q3,q4,q5]
    ·simp [zkP,zqT,zaf,zak,zah,zal,s1,s2,zay,hb1,hb2,zaj,q1,q2,q3,q4,q5,zaa]
     try rfl
   ·simp [zkP,zqT,zaf,zak,zah,zal,s1,s2,zay,hb1,hb2,zaj,q1,q2,q3,zaa]
    try rfl
theorem zpf (kind:Int) (h12:12≤kind) (h15:kind≤15) (a b:Vl) (ha:a.t.length≤1048576) (H:GH):ecall T zxK [.int .i64 kind,.agg (vlC a),.agg (vlC b)] H=some (.agg (vlC (zjQ kind a b)),H):=by
 have hb:=fun b H=>zcy b H
 have hc:=fun H=>zjm a b ha H
 apply optW.eq
 rw [zae zGW rfl (by simp [ztO]),zab]
 simp only [ztO,zDs]
 have e10:¬ kind=10:=by omega
 have e11:¬ kind=11:=by omega
 unfold zjQ
 have s9:∀ v,zaa (vlC zaV) 0 (vlC v)=some (vlC v):=fun _=>rfl
 simp only [zlB]
 by_cases k1:a.k=b.k
 ·by_cases k2:b.k<1
  ·simp [e10,e11,k1,k2,zaf,zak,zah,zal,s9,zdC,zdD,zbq,zbr]
  ·by_cases k3:3<b.k
   ·simp [e10,e11,k1,k2,k3,zaf,zak,zah,zal,s9,zdC,zdD,zbq,zbr]
   ·by_cases q12:kind=12
    ·by_cases z:zdr a b<0 <;> simp [q12,k1,k2,k3,hb,hc,z,zaf,zak,zah,zal,s9,zdC,zdD,zbq,zbr]
    ·by_cases q13:kind=13
     ·by_cases z:zdr a b≤0 <;> simp [q13,k1,k2,k3,hb,hc,z,zaf,zak,zah,zal,s9,zdC,zdD,zbq,zbr]
     ·by_cases q14:kind=14
      ·by_cases z:0<zdr a b <;> simp [q14,k1,k2,k3,hb,hc,z,zaf,zak,zah,zal,s9,zdC,zdD,zbq,zbr]
      ·have q15:kind=15:=by omega
       by_cases z:0≤zdr a b <;> simp [q15,k1,k2,k3,hb,hc,z,zaf,zak,zah,zal,s9,zdC,zdD,zbq,zbr]
 ·simp [e10,e11,k1,zaf,zak,zah,zal,s9,zdC,zdD,zbq,zbr]
theorem zfe {x y:Int} {X Y:Nat} (hx:x.natAbs≤X) (hy:y.natAbs≤Y):(x * y).natAbs≤X * Y:=by
 rw [Int.natAbs_mul]; exact Nat.mul_le_mul hx hy
theorem zwI {x y:Int} {X Y:Nat} (hx:X≤x.natAbs) (hy:Y≤y.natAbs):X * Y≤(x * y).natAbs:=by
 rw [Int.natAbs_mul]; exact Nat.mul_le_mul hx hy
theorem zsz {a b:Int} (ha:a.natAbs≤1099511627776) (hb:b.natAbs≤1099511627776):zcn (zwy a b)=zcn (a * b):=by
 obtain ⟨q,r,hqr,hr0,hr1,hq⟩:∃ q r:Int,a=1048576 * q+r∧0≤r∧r<1048576∧a.fdiv 1048576=q :=
  ⟨a.fdiv 1048576,a.fmod 1048576,(Int.mul_fdiv_add_fmod a 1048576).symm,Int.fmod_nonneg_of_pos a (by decide),Int.fmod_lt_of_pos a (by decide),rfl⟩
 obtain ⟨p,s,hps,hs0,hs1,hp⟩:∃ q r:Int,b=1048576 * q+r∧0≤r∧r<1048576∧b.fdiv 1048576=q :=
  ⟨b.fdiv 1048576,b.fmod 1048576,(Int.mul_fdiv_add_fmod b 1048576).symm,Int.fmod_nonneg_of_pos b (by decide),Int.fmod_lt_of_pos b (by decide),rfl⟩
 have hqb:q.natAbs≤1048576:=by omega
 have hpb:p.natAbs≤1048576:=by omega
 have h1:=zfe hqb hpb
 have hw:zjP a b=q * p:=by
  unfold zjP
  rw [hq,hp]
  exact zar (by omega) (by omega)
 unfold zwy
 rw [hw]
 have three:∀ {x y:Int},x.natAbs≤1048576→2097152<(x * y).natAbs→3≤y.natAbs:=fun {x y} hx hxy=>by
  rcases Nat.lt_or_ge y.natAbs 3 with h | h
  ·have:=zfe hx (show y.natAbs≤2 by omega)
   omega
  ·exact h
 by_cases hbig:q * p > 2097152∨q * p < -2097152
 ·rw [if_pos hbig]
  have hgr:2097152<(q * p).natAbs:=by omega
  have hp3:=three hqb hgr
  have hq3:=three hpb (by rw [Int.mul_comm]; exact hgr)
  have hag:2097153≤a.natAbs:=by omega
  have hbg:2097153≤b.natAbs:=by omega
  have hab:=zwI hag hbg
  have hsg:q * p<0↔a * b<0:=by
   rcases Int.lt_or_le q 0 with hq' | hq' <;> rcases Int.lt_or_le p 0 with hp' | hp'
   ·have e1:0<q * p:=Int.mul_pos_of_neg_of_neg hq' hp'
    have e2:0<a * b:=Int.mul_pos_of_neg_of_neg (by omega) (by omega)
    omega
   ·have e1:q * p<0:=Int.mul_neg_of_neg_of_pos hq' (by omega)
    have e2:a * b<0:=Int.mul_neg_of_neg_of_pos (by omega) (by omega)
    omega
   ·have e1:q * p<0:=Int.mul_neg_of_pos_of_neg (by omega) hp'
    have e2:a * b<0:=Int.mul_neg_of_pos_of_neg (by omega) (by omega)
    omega
   ·have e1:0<q * p:=Int.mul_pos (by omega) (by omega)
    have e2:0<a * b:=Int.mul_pos (by omega) (by omega)
    omega
  by_cases hneg:q * p<0
  ·rw [if_pos hneg]
   have:=hsg.1 hneg
   generalize a * b=z at *
   unfold zcn
   split <;> split <;> (try split) <;> omega
  ·rw [if_neg hneg]
   have:¬ a * b<0:=fun h=>hneg (hsg.2 h)
   generalize a * b=z at *
   unfold zcn
   split <;> (try split) <;> (try split) <;> (try split) <;> omega
 ·rw [if_neg hbig]
  have e:a * b=1099511627776 * (q * p)+1048576 * (q * s)+1048576 * (p * r)+r * s:=by
   rw [hqr,hps]
   simp only [Int.add_mul,Int.mul_add]
   have e1:1048576 * q * (1048576 * p)=1099511627776 * (q * p):=by
    rw [Int.mul_assoc,← Int.mul_assoc q,Int.mul_comm q,Int.mul_assoc,← Int.mul_assoc]; rfl
   have e2:r * (1048576 * p)=1048576 * (p * r):=by
    rw [Int.mul_left_comm,Int.mul_comm r]
   have e3:1048576 * q * s=1048576 * (q * s):=Int.mul_assoc _ _ _
   omega
  have b1:=zfe hqb (show s.natAbs≤1048576 by omega)
  have b2:=zfe hpb (show r.natAbs≤1048576 by omega)
  have b3:=zfe (show r.natAbs≤1048576 by omega) (show s.natAbs≤1048576 by omega)
  rw [zar (by omega) (by omega)]
theorem zpg {A B:Nat} (h:2199023255552 / B<A) (hB:0<B):2199023255552<A * B:=by
 have:=(Nat.div_lt_iff_lt_mul hB).1 h
 exact this
theorem zph {A B:Nat} (h:¬ 2199023255552 / B<A) (hB:0<B):A * B≤2199023255552:=by
 rcases Nat.lt_or_ge 2199023255552 (A * B) with h' | h'
 ·exact absurd ((Nat.div_lt_iff_lt_mul hB).2 h') h
 ·exact h'
theorem zpi (a b:Int) (ha:a.natAbs≤1099511627776) (hb:b.natAbs≤1099511627776) (H:GH):ecall T zxL [.int .i64 a,.int .i64 b] H=some (.int .i64 (zcn (a * b)),H):=by
 have hc:=fun n H=>zjp n H
 have wa:IntKind.i64.wrap (-a)=-a:=zar (by omega) (by omega)
 have wb:IntKind.i64.wrap (-b)=-b:=zar (by omega) (by omega)
 have hz:IntKind.i64.wrap 0=0:=by decide
 have hc0:zcn 0=0:=by decide
 have hma:(if -a > a then -a else a)=(a.natAbs:Int):=by split <;> omega
 have hmb:(if -b > b then -b else b)=(b.natAbs:Int):=by split <;> omega
 apply optW.eq
 rw [zae zGY rfl (by simp [ztP]),zab]
 simp only [ztP,zDt]
 by_cases a0:a=0
 ·subst a0
  simp [hc,hz,hc0]
 ·by_cases b0:b=0
  ·subst b0
   simp [a0,hc,hz,hc0]
  ·have hbp:0<b.natAbs:=by omega
   have hq:IntKind.i64.wrap ((2199023255552:Int).tdiv (b.natAbs:Int))=((2199023255552 / b.natAbs:Nat):Int):=by
    have e:(2199023255552:Int).tdiv (b.natAbs:Int)=((2199023255552 / b.natAbs:Nat):Int):=rfl
    rw [e]
    have:=Nat.div_le_self 2199023255552 b.natAbs
    generalize 2199023255552 / b.natAbs=Q at *
    exact zar (by omega) (by omega)
   have hbn:¬ (b.natAbs:Int)=0:=by omega
   have nab:=Int.natAbs_mul a b
   have hquo:zlc .quo .i64 2199023255552 (b.natAbs:Int)=some (.int .i64 ((2199023255552 / b.natAbs:Nat):Int)):=by
    show (if (b.natAbs:Int)=0 then none else some (GV.int .i64 (IntKind.i64.wrap ((2199023255552:Int).tdiv (b.natAbs:Int)))))=_
    rw [if_neg hbn,hq]
   have hgr0:2199023255552 / b.natAbs<a.natAbs→_:=fun h=>zpg h hbp
   have hgs0:¬ 2199023255552 / b.natAbs<a.natAbs→_:=fun h=>zph h hbp
   clear hq
   generalize 2199023255552 / b.natAbs=Q at *
   by_cases hg:Q<a.natAbs
   ·have hgr:=hgr0 hg
    have hg':(Q:Int)<(a.natAbs:Int):=by omega
    by_cases sa:a<0
    ·by_cases sb:b<0
     ·have e2:0<a * b:=Int.mul_pos_of_neg_of_neg sa sb
      have ec:zcn (a * b)=1099511627776:=by
       generalize a * b=z at *
       unfold zcn; split <;> (try split) <;> omega
      simp [a0,b0,wa,wb,hma,hmb,hquo,hg',sa,sb,ec]
     ·have e2:a * b<0:=Int.mul_neg_of_neg_of_pos sa (by omega)
      have ec:zcn (a * b)=-1099511627776:=by
       generalize a * b=z at *
       unfold zcn; split <;> (try split) <;> omega
      simp [a0,b0,wa,wb,hma,hmb,hquo,hg',sa,sb,ec]
    ·by_cases sb:b<0
     ·have e2:a * b<0:=Int.mul_neg_of_pos_of_neg (by omega) sb
      have ec:zcn (a * b)=-1099511627776:=by
       generalize a * b=z at *
       unfold zcn; split <;> (try split) <;> omega
      simp [a0,b0,wa,wb,hma,hmb,hquo,hg',sa,sb,ec]
     ·have e2:0<a * b:=Int.mul_pos (by omega) (by omega)
      have ec:zcn (a * b)=1099511627776:=by
       generalize a * b=z at *
       unfold zcn; split <;> (try split) <;> omega
      simp [a0,b0,wa,wb,hma,hmb,hquo,hg',sa,sb,ec]
   ·have hgs:=hgs0 hg
    have hg':¬ (Q:Int)<(a.natAbs:Int):=by omega
    have hw:IntKind.i64.wrap (a * b)=a * b:=zar (by omega) (by omega)
    simp [a0,b0,wa,wb,hma,hmb,hquo,hg',hc,hw]
def zg2 (env:List Bd) (name:List UInt8):Vl:=match env.find? fun b=>decide (b.var=name) with | some b=>b.v | none=>zaV
theorem zCd (b:Bd) (name:List UInt8) (n:Nat) (H:GH) (ho:H.objs[n]?=some (.cells 9 [.str (mkB name)])):ecall T zCY ([]++[bdG b]++[.ptr n 0]) H=some (.bool (decide (b.var=name)),H):=by
 obtain ⟨var,⟨vk,vn,vt⟩⟩:=b
 apply optW.eq
 rw [List.nil_append,List.singleton_append,zae zIt rfl (by simp [zDM]),zab]
 simp [zDM,zH1,bdG,bdC,vlC,ho]
theorem zkC {env:List Bd} {p:Bd→Bool} {i:Nat} {e:Bd} (h:env[i]?=some e) (hp:p e=true) (hno:∀ x∈env.take i,p x=false):env.find? p=some e:=by
 have hlt:=(List.getElem?_eq_some_iff.1 h).1
 have he:=(List.getElem?_eq_some_iff.1 h).2
 have:env=env.take i++e::env.drop (i+1):=by
  rw [← he,← List.drop_eq_getElem_cons hlt,List.take_append_drop]
 rw [this,List.find?_append,List.find?_cons,hp]
 have hn:(env.take i).find? p=none:=List.find?_eq_none.2 fun x hx=>by rw [hno x hx]; simp
 rw [hn]
 rfl
theorem zwJ (env:List Bd) (hl:env.length≤1000) (ve:GV) (hve:Elems 4 ve (env.map bdG)) (name:List UInt8) (H:GH) :
 ∃ r:Int,ecall T zCl [ve,.str (mkB name)] H=some (.int .i64 r,H.newObj (.cells 9 [.str (mkB name)]))∧((r=-1∧zg2 env name=zaV)∨∃ (i:Nat) (e:Bd),r=i∧env[i]?=some e∧zg2 env name=e.v):=by
 have e2:=zad hve
 have e3:=hve.ok
 have ho:(H.newObj (.cells 9 [.str (mkB name)])).objs[H.objs.length]?=some (.cells 9 [.str (mkB name)]):=by
  show (H.objs++_)[H.objs.length]?=_
  simp
 obtain ⟨r,hr,hc⟩:=zIg env (by omega) ve hve zCY [] [.ptr H.objs.length 0] (fun b=>decide (b.var=name)) (H.newObj (.cells 9 [.str (mkB name)])) (fun e _=>zCd e name _ _ ho) rfl
 have goal:optW (ecall T zCl [ve,.str (mkB name)] H) fun x=>x=(.int .i64 r,H.newObj (.cells 9 [.str (mkB name)])):=by
  rw [zae zIs rfl (by simp [zDz]),zab]
  simp [zDz,zH0,e2,e3,hr]
 obtain ⟨x,hx,rfl⟩:=goal
 refine ⟨r,hx, ?_⟩
 rcases hc with ⟨rfl,h⟩ | ⟨i,e,rfl,opt,hp,hno⟩
 ·refine .inl ⟨rfl, ?_⟩
  unfold zg2
  have:(env.find? fun b=>decide (b.var=name))=none:=List.find?_eq_none.2 fun x hx=>by rw [h x hx]; simp
  rw [this]
 ·refine .inr ⟨i,e,rfl,opt, ?_⟩
  unfold zg2
  rw [zkC opt hp hno]
theorem zqo (env:List Bd) (hl:env.length≤1000) (ve:GV) (hve:Elems 4 ve (env.map bdG)) (name:List UInt8) (H:GH) :
 ecall T zAG [ve,.str (mkB name)] H=some (.agg (vlC (zg2 env name)),H.newObj (.cells 9 [.str (mkB name)])):=by
 obtain ⟨r,hr,hc⟩:=zwJ env hl ve hve name H
 have e2:=zad hve
 have e3:=hve.ok
 have goal:optW (ecall T zAG [ve,.str (mkB name)] H) fun x=>x=(.agg (vlC (zg2 env name)),H.newObj (.cells 9 [.str (mkB name)])):=by
  rw [zae zIr rfl (by simp [zCm]),zab]
  rcases hc with ⟨rfl,h⟩ | ⟨i,e,rfl,opt,h⟩
  ·rw [h]
   simp [zCm,zGn,e2,e3,hr,zaf,zaa]
   rfl
  ·have hi:=(List.getElem?_eq_some_iff.1 opt).1
   obtain ⟨lt,ix,opt',get,⟨t,sv⟩,_,mem⟩:=zbL (e:=bdG) hve hi (by omega)
   have hge:=(List.getElem?_eq_some_iff.1 opt).2
   rw [h]
   generalize env[i]'hi=y at opt' get mem hge
   subst hge
   have xd:List.take 3 (List.drop 1 (bdC y))=vlC y.v:=rfl
   have xd':List.take 3 (List.tail (bdC y))=vlC y.v:=rfl
   have hl4:(bdC y).length=4:=rfl
   rw [sv] at hr ⊢
   simp [zCm,zGn,hr,ix,opt',hl4,xd,xd',zak,zah,zal,zay]
 obtain ⟨x,hx,rfl⟩:=goal
 exact hx
theorem zpj (k n:Int) (s:ByteArray) (hs:s.size≤1073741824) (H:GH):∃ x y z,ecall T zgl [.agg [.int .i64 k,.int .i64 n,.str s]] H=some (.tup [.agg [.str x,.str y,.str z],.bool (decide (k=5)&&(decide (n=0)&&(zbE s.data.toList).isSome))],H)∧∀ a b c,k=5→n=0→zbE s.data.toList=some (a,b,c)→x.data.toList=a∧y.data.toList=c∧z.data.toList=b:=by
 obtain ⟨parts,hp,hsp⟩:=zng s hs H
 have key:∃ x y z,(optW (ecall T zgl [.agg [.int .i64 k,.int .i64 n,.str s]] H) fun r=>r=(.tup [.agg [.str x,.str y,.str z],.bool (decide (k=5)&&(decide (n=0)&&(zbE s.data.toList).isSome))],H))∧∀ a b c,k=5→n=0→zbE s.data.toList=some (a,b,c)→x.data.toList=a∧y.data.toList=c∧z.data.toList=b:=by
  rw [zae zAf rfl (by simp [zdi])]
  by_cases hk:k=5
  ·by_cases hn:n=0
   ·have hsize:∀ p∈parts,p.size≤1073741824:=by
     intro p hpm
     have h1:p.data.toList∈zbV 62 s.data.toList:=by rw [← hp]; exact List.mem_map_of_mem hpm
     have h2:=zgc 62 _ _ h1
     have e1:p.size=p.data.toList.length:=by simp
     have e2:s.size=s.data.toList.length:=by simp
     omega
    by_cases h3:parts.length=3
    ·obtain ⟨a,b,c,rfl⟩:∃ a b c,parts=[a,b,c]:=by
      match parts,h3 with
      | [a,b,c],_=>exact ⟨a,b,c,rfl⟩
     have hna:=zAw a b c .exact (hsize a (by simp)) (hsize b (by simp)) (hsize c (by simp)) H
     simp only [List.map_cons,List.map_nil] at hp hsp
     have hlk:(zbE s.data.toList).isSome=(zaz a.data.toList&&zaz b.data.toList&&zaz c.data.toList):=by
      unfold zbE
      rw [← hp]
      simp only
      split <;> simp_all
     rw [hlk]
     cases hx:(zaz a.data.toList&&zaz b.data.toList&&zaz c.data.toList) <;> rw [hx] at hna
     ·refine ⟨⟨#[]⟩,⟨#[]⟩,⟨#[]⟩, ?_,fun a' b' c' _ _ h=>by rw [h,hx] at hlk; cases hlk⟩
      rw [zab]
      simp [zdi,zeO,hk,hn,hsp,hna,zaf,zaa]
     ·refine ⟨a,c,b, ?_,fun a' b' c' _ _ h=>by
       unfold zbE at h
       rw [← hp] at h
       simp only at h
       rw [hx] at h
       simp only [if_true,Option.some.injEq,Prod.mk.injEq] at h
       exact ⟨h.1,h.2.2,h.2.1⟩⟩
      rw [zab]
      simp [zdi,zeO,hk,hn,hsp,hna,zaf,zaa,gIx]
    ·have hlk:(zbE s.data.toList).isSome=false:=by
      unfold zbE
      rw [← hp]
      split
      ·rename_i a b c h
       have:=congrArg List.length h
       simp at this
       exact absurd this h3
      ·rfl
     have h3':¬ ((parts.length:Int)=3):=by omega
     refine ⟨⟨#[]⟩,⟨#[]⟩,⟨#[]⟩, ?_,fun a' b' c' _ _ h=>by rw [h] at hlk; cases hlk⟩
     rw [zab,hlk]
     simp [zdi,zeO,hk,hn,hsp,zaf,zaa,h3',h3]
   ·refine ⟨⟨#[]⟩,⟨#[]⟩,⟨#[]⟩, ?_,fun _ _ _ _ h _=>absurd h hn⟩
    rw [zab]
    simp [zdi,zeO,hk,hn,hsp,zaf,zaa]
  ·refine ⟨⟨#[]⟩,⟨#[]⟩,⟨#[]⟩, ?_,fun _ _ _ h _ _=>absurd h hk⟩
   rw [zab]
   simp [zdi,zeO,hk,hsp,zaf,zaa]
 obtain ⟨x,y,z,h,h'⟩:=key
 exact ⟨x,y,z,optW.eq h,h'⟩
theorem zwK (s:ByteArray) (H:GH):∃ x y z,ecall T zlV [.str s] H=some (.tup [.agg [.str x,.str y,.str z],.bool (zbE s.data.toList).isSome],H)∧∀ a b c,zbE s.data.toList=some (a,b,c)→x.data.toList=a∧y.data.toList=c∧z.data.toList=b:=by
 have hsz:s.size=s.data.toList.length:=by simp
 have key:∃ x y z,(optW (ecall T zlV [.str s] H) fun r=>r=(.tup [.agg [.str x,.str y,.str z],.bool (zbE s.data.toList).isSome],H))∧∀ a b c,zbE s.data.toList=some (a,b,c)→x.data.toList=a∧y.data.toList=c∧z.data.toList=b:=by
  rw [zbc zD0 rfl (by simp [zeG])]
  by_cases h60:(60:Int)<s.size
  ·refine ⟨⟨#[]⟩,⟨#[]⟩,⟨#[]⟩, ?_,fun _ _ _ h=>by have e:=zfq s.data.toList (by omega); rw [h] at e; cases e⟩
   have h60':60<s.size:=by omega
   rw [zab,zfq _ (by omega)]
   simp [zeG,zhe,h60,h60',zaf,zaa,zce]
  ·have h60':¬ 60<s.size:=by omega
   obtain ⟨id,parts,H',hp,hob,hsp⟩:=zni s (by omega) H.over (by simp [GH.over])
   by_cases h3:parts.length=3
   ·obtain ⟨a,b,c,rfl⟩:∃ a b c,parts=[a,b,c]:=by
     match parts,h3 with
     | [a,b,c],_=>exact ⟨a,b,c,rfl⟩
    simp only [List.map_cons,List.map_nil,List.length_cons,List.length_nil] at hp hsp hob
    have hsum:=zfp 62 s.data.toList
    rw [← hp] at hsum
    simp only [List.map_cons,List.map_nil,List.sum_cons,List.sum_nil,List.length_cons,List.length_nil] at hsum
    have hlen:∀ b:ByteArray,b.size=b.data.toList.length:=fun b=>by simp
    have ha:=hlen a; have hb:=hlen b; have hc:=hlen c
    have hlk:(zbE s.data.toList).isSome=(zaz a.data.toList&&zaz b.data.toList&&zaz c.data.toList):=by
     unfold zbE
     rw [← hp]
     simp only
     cases hh:(zaz a.data.toList&&zaz b.data.toList&&zaz c.data.toList) <;> simp only [if_true,if_false,Bool.false_eq_true] <;> rfl
    have na:=zda a (by omega) H'
    have nb:=zda b (by omega) H'
    have nc:=zda c (by omega) H'
    rw [hlk]
    have e1:(0+1+1+1:Nat)=3:=rfl
    rw [e1] at hsp
    cases xa:zaz a.data.toList <;> rw [xa] at na
    ·refine ⟨⟨#[]⟩,⟨#[]⟩,⟨#[]⟩, ?_,fun _ _ _ h=>by rw [h] at hlk; simp [xa] at hlk⟩
     rw [zab]
     simp [zeG,zhe,h60,h60',hsp,hob,gIx,na,zaf,zaa,zce]
    ·cases xb:zaz b.data.toList <;> rw [xb] at nb
     ·refine ⟨⟨#[]⟩,⟨#[]⟩,⟨#[]⟩, ?_,fun _ _ _ h=>by rw [h] at hlk; simp [xa,xb] at hlk⟩
      rw [zab]
      simp [zeG,zhe,h60,h60',hsp,hob,gIx,na,nb,zaf,zaa,zce]
     ·cases xc:zaz c.data.toList <;> rw [xc] at nc
      ·refine ⟨⟨#[]⟩,⟨#[]⟩,⟨#[]⟩, ?_,fun _ _ _ h=>by rw [h] at hlk; simp [xa,xb,xc] at hlk⟩
       rw [zab]
       simp [zeG,zhe,h60,h60',hsp,hob,gIx,na,nb,nc,zaf,zaa,zce]
      ·refine ⟨a,c,b, ?_,fun a' b' c' h=>by
        unfold zbE at h
        rw [← hp] at h
        simp only [xa,xb,xc,Bool.and_self,if_true,Option.some.injEq,Prod.mk.injEq] at h
        exact ⟨h.1,h.2.2,h.2.1⟩⟩
       rw [zab]
       simp [zeG,zhe,h60,h60',hsp,hob,gIx,na,nb,nc,zaf,zaa,zce]
   ·have hlk:(zbE s.data.toList).isSome=false:=by
     unfold zbE
     rw [← hp]
     split
     ·rename_i a b c h
      have:=congrArg List.length h
      simp at this
      exact absurd this h3
     ·rfl
    have h3':¬ ((parts.length:Int)=3):=by omega
    refine ⟨⟨#[]⟩,⟨#[]⟩,⟨#[]⟩, ?_,fun _ _ _ h=>by rw [h] at hlk; cases hlk⟩
    rw [zab,hlk]
    simp [zeG,zhe,h60,h60',hsp,zaf,zaa,h3',h3,zce]
 obtain ⟨x,y,z,h,h'⟩:=key
 exact ⟨x,y,z,optW.eq h,h'⟩
def zsA (x:Vl) (prop:List UInt8):Option El :=
 match (if x.k=5∧x.n=0 then zbE x.t else none) with
 | some (a,b,c)=>some ⟨5,a,c,b,prop⟩
 | none=>if x.k=4 then some ⟨4,x.t,[],[],prop⟩ else none
def zek (w:Vw) (env:List Bd) (e:Ex):List Vl:=match zsA (zg2 env e.var) e.prop with | some z=>w.values z | none=>[]
theorem zCe {env:List Bd} (h:∀ b∈env,BdOk b) (name:List UInt8):(zg2 env name).t.length≤1073741824:=by
 unfold zg2
 cases hf:env.find? fun b=>decide (b.var=name) with
 | none=>simp
 | some b=>exact (h b (List.mem_of_find?_eq_some hf)).t
theorem zsB {t a b c:List UInt8} (h:zbE t=some (a,b,c)):a.length≤16∧b.length≤16∧c.length≤16:=by
 unfold zbE at h
 split at h
 ·split at h
  ·rename_i hn
   injection h with h
   simp only [Prod.mk.injEq] at h
   obtain ⟨rfl,rfl,rfl⟩:=h
   simp only [zaz,Bool.and_eq_true,decide_eq_true_eq] at hn
   omega
  ·cases h
 ·cases h
theorem zpk {H:GH} {m:Nat} {w:Vw} {links:List Lk} {outs ins:List UInt8→List Lk} (hV:VDone H m w links outs ins) (hm:m+7≤H.objs.length) (n:Nat) (vr ve out:GV) (ho:H.objs[n]?=some (.cells 124 [vr,ve,.ptr (m+6) 0,out])) (env:List Bd) (hel:env.length≤1000) (hve:Elems 4 ve (env.map bdG)) (hok:∀ b∈env,BdOk b) (e:Ex) (hprop:e.prop.length≤1125899906842624) (hw:∀ z,(w.values z).length≤1000) :
 ∃ v,ecall T zqN [.ptr n 0,exG e] H=some (v,H)∧Elems 3 v ((zek w env e).map vlG):=by
 have hG:=fun H=>zqo env hel ve hve e.var H
 have hx:=zCe hok e.var
 have hn:n<H.objs.length:=(List.getElem?_eq_some_iff.1 ho).1
 unfold zek
 generalize zg2 env e.var=x at hG hx
 have e2:=zad hve
 have e3:=hve.ok
 have x4:∀ h,(exC e)[4]'h=.str (mkB e.var):=fun _=>rfl
 have x5:∀ h,(exC e)[5]'h=.str (mkB e.prop):=fun _=>rfl
 have hl8:(exC e).length=8:=rfl
 have ht8:List.take 8 (exC e)=exC e:=rfl
 generalize hH2:H.over.newObj (.cells 9 [.str (mkB e.var)])=H2 at *
 have hG':=hG H.over
 rw [hH2] at hG'
 have ho2:H2.objs[n]?=some (.cells 124 [vr,ve,.ptr (m+6) 0,out]):=by
  rw [← hH2]
  show (H.objs++_)[n]?=_
  rw [List.getElem?_append_left hn]; exact ho
 have hV2:VDone H2 m w links outs ins:=hV.keep fun i _ hi=>by
  rw [← hH2]
  show (H.objs++_)[i]?=_
  rw [List.getElem?_append_left (by omega)]
 obtain ⟨y1,y2,y3,hLk,hLs⟩:=zpj x.k x.n (mkB x.t) (by simpa using hx) H2
 simp at hLk hLs
 change ecall T zgl [.agg (vlC x)] H2=_ at hLk
 have x0:∀ h,(vlC x)[0]'h=.int .i64 x.k:=fun _=>rfl
 have xt:∀ h,(vlC x)[2]'h=.str (mkB x.t):=fun _=>rfl
 have x0':(vlC x)[0]?=some (.int .i64 x.k):=rfl
 have xt':(vlC x)[2]?=some (.str (mkB x.t)):=rfl
 have goal:optW (ecall T zqN [.ptr n 0,exG e] H) fun r=>∃ v,r=(v,H)∧Elems 3 v ((match zsA x e.prop with | some z=>w.values z | none=>[]).map vlG):=by
  rw [zbc zHq rfl (by simp [zud]),zab]
  simp only [zud,zDP,exG]
  unfold zsA
  by_cases h5:x.k=5∧x.n=0
  ·rw [if_pos h5]
   obtain ⟨hk5,hn0⟩:=h5
   cases hk:zbE x.t with
   | none =>
    rw [hk] at hLk
    simp [ho,e2,e3,hl8,ht8,x4,x5,hG',zak,zah,zal,zay,x0,xt,x0',xt',ho2,zaf,zaa,hLk,hk5]
    exact .nil
   | some p =>
    obtain ⟨a,b,c⟩:=p
    obtain ⟨l1,l2,l3⟩:=zsB hk
    obtain ⟨v,c1,c2⟩:=ziw hV2 ⟨5,a,c,b,e.prop⟩ (zk6 ⟨by simp; omega,by simp; omega,by simp; omega,hprop⟩ ⟨by simp,by simp⟩) (hw _)
    obtain ⟨q1,q2,q3⟩:=hLs a b c hk5 hn0 hk
    have r1:y1=mkB a:=by rw [← q1,zcE]
    have r2:y2=mkB c:=by rw [← q2,zcE]
    have r3:y3=mkB b:=by rw [← q3,zcE]
    subst r1 r2 r3
    simp only [elC] at c1
    have u2:=zad c2
    have u3:=c2.ok
    rw [hk] at hLk
    simp [ho,e2,e3,hl8,ht8,x4,x5,hG',zak,zah,zal,zay,x0,xt,x0',xt',ho2,zaf,zaa,hLk,hk5,hn0,c1,u2,u3]
    obtain ⟨v2,d1,d2⟩:=zbQ (a:=H.objs.length) (b:=H.toks.length) (n:=99) c2 (fun x hx=>by obtain ⟨y,_,rfl⟩:=List.mem_map.1 hx; rfl)
    simp [d1]
    exact d2
  ·rw [if_neg h5]
   have hb:(decide (x.k=5)&&(decide (x.n=0)&&(zbE x.t).isSome))=false:=by
    by_cases q:x.k=5
    ·have:¬ x.n=0:=fun h=>h5 ⟨q,h⟩
     simp [this]
    ·simp [q]
   by_cases h4:x.k=4
   ·obtain ⟨v,c1,c2⟩:=ziw hV2 ⟨4,x.t,[],[],e.prop⟩ (zk6 ⟨by simp; omega,by simp,by simp,hprop⟩ ⟨by simp,by simp⟩) (hw _)
    simp only [elC,zc0] at c1
    have u2:=zad c2
    have u3:=c2.ok
    simp [h4] at hLk
    simp [ho,e2,e3,hl8,ht8,x4,x5,hG',zak,zah,zal,zay,x0,xt,x0',xt',ho2,zaf,zaa,hLk,h4,c1,u2,u3]
    obtain ⟨v2,d1,d2⟩:=zbQ (a:=H.objs.length) (b:=H.toks.length) (n:=99) c2 (fun x hx=>by obtain ⟨y,_,rfl⟩:=List.mem_map.1 hx; rfl)
    simp [d1]
    exact d2
   ·rw [hb] at hLk
    simp [ho,e2,e3,hl8,ht8,x4,x5,hG',zak,zah,zal,zay,x0,xt,x0',xt',ho2,zaf,zaa,hLk,h4]
    exact .nil
 obtain ⟨r,hr,v,rfl,h2⟩:=goal
 exact ⟨v,hr,h2⟩
def zwL (w:Vw) (env:List Bd) (e:Ex):Vl :=
 if e.k=1 then e.v
 else if e.k=2 then zg2 env e.var
 else if e.k=4 then zqk (zek w env e).length
 else ((zek w env e).getLast?).getD zaV
theorem zwM {H:GH} {m:Nat} {w:Vw} {links:List Lk} {outs ins:List UInt8→List Lk} (hV:VDone H m w links outs ins) (hm:m+7≤H.objs.length) (n:Nat) (vr ve out:GV) (ho:H.objs[n]?=some (.cells 124 [vr,ve,.ptr (m+6) 0,out])) (env:List Bd) (hel:env.length≤1000) (hve:Elems 4 ve (env.map bdG)) (hok:∀ b∈env,BdOk b) (e:Ex) (hprop:e.prop.length≤1125899906842624) (hw:∀ z,(w.values z).length≤1000) :
 ecall T znP [.ptr n 0,exG e] H=some (.agg (vlC (zwL w env e)),H):=by
 have hV2:VDone H.over m w links outs ins:=hV.keep fun i _ _=>rfl
 obtain ⟨v,hv,hvE⟩:=zpk hV2 hm n vr ve out ho env hel hve hok e hprop hw
 have hG:=zqo env hel ve hve e.var H.over
 have hb:=fun k H=>zgf k H
 have e2:=zad hve
 have e3:=hve.ok
 have v2:=zad hvE
 have v3:=hvE.ok
 have v1:=hvE.len
 have x0:∀ h,(exC e)[0]'h=.int .i64 e.k:=fun _=>rfl
 have x0':(exC e)[0]?=some (.int .i64 e.k):=rfl
 have x4:∀ h,(exC e)[4]'h=.str (mkB e.var):=fun _=>rfl
 have xv:List.take 3 (List.drop 1 (exC e))=vlC e.v:=rfl
 have xv':List.take 3 (List.tail (exC e))=vlC e.v:=rfl
 have hl8:(exC e).length=8:=rfl
 have ht8:List.take 8 (exC e)=exC e:=rfl
 have hcl:∀ v,zaJ H.objs.length H.toks.length 100 (GV.agg (vlC v))=some (.agg (vlC v)):=fun _=>rfl
 have hcl0:zaJ H.objs.length H.toks.length 100 (GV.agg [.int .i64 0,.int .i64 0,.str ⟨#[]⟩])=some (.agg [.int .i64 0,.int .i64 0,.str ⟨#[]⟩]):=rfl
 simp only [List.length_map] at v1
 simp only [exG] at hv
 have hlen:(zek w env e).length≤1000:=by
  unfold zek
  split
  ·exact hw _
  ·simp
 apply optW.eq
 rw [zbc zHf rfl (by simp [zt7]),zab]
 simp only [zt7,zDI,exG]
 unfold zwL
 generalize zek w env e=vs at *
 by_cases k1:e.k=1
 ·simp [ho,e2,e3,hl8,ht8,x0,x0',x4,xv,xv',k1,zak,zah,zal,zay,hcl]
 ·by_cases k2:e.k=2
  ·simp [ho,e2,e3,hl8,ht8,x0,x0',x4,k2,hG,zak,zah,zal,zay,hcl]
  ·by_cases k4:e.k=4
   ·simp [hl8,ht8,x0,x0',k4,hv,v1,v2,v3,hb,zak,zah,zal,zay,hcl]
   ·cases hvs:vs.getLast? with
    | none =>
     have hnil:vs=[]:=List.getLast?_eq_none_iff.1 hvs
     subst hnil
     simp [hl8,ht8,x0,x0',k1,k2,k4,hv,v1,v2,v3,zak,zah,zal,zay,hcl0,zaf,zaa]
     rfl
    | some p =>
     rw [List.getLast?_eq_getElem?] at hvs
     have hpos:0<vs.length:=by
      rcases vs with _ | ⟨a,l⟩
      ·simp at hvs
      ·simp
     obtain ⟨lt,ix,opt,get,⟨t,sv⟩,_,_⟩:=zbL (e:=vlG) hvE (show vs.length - 1<vs.length by omega) (by omega)
     have hw1:IntKind.i64.wrap ((vs.length:Int) - 1)=((vs.length - 1:Nat):Int):=by
      rw [zar (by omega) (by omega)]; omega
     have hg:∀ h,vs[vs.length - 1]'h=p:=fun _=>(List.getElem?_eq_some_iff.1 hvs).2
     rw [sv] at hv
     rw [sv] at v1
     simp [hl8,ht8,x0,x0',k1,k2,k4,hv,hpos,hw1,ix,hvs,hg,zak,zah,zal,zay,hcl]
theorem zwN (env:List Bd) (hel:env.length≤1000) (va vb:GV) (hva:Elems 1 va (env.map fun b=>zbB b.var)) (hvb:Elems 3 vb (env.map fun b=>vlG b.v)) (name:List UInt8) (g2 g4:Nat) (l0:List GV) (g0:Nat) (H0:GH) (K:GExit × St→Prop)
 (h8:zai l0 8=va) (h9:zai l0 9=.int .i64 env.length) (h10:zai l0 10=.int .i64 0) (h1:zai l0 1=.str (mkB name)) (h2:zai l0 2=.lbox g2 [va,vb]) (h4:zai l0 4=.lbox g4 [.int .i64 0,.int .i64 0,.str ⟨#[]⟩])
 (hr:∀ l g,zai l 4=.lbox g4 (vlC (zg2 env name))→K (.ret,⟨⟨l,g⟩,H0⟩))
 (he:∀ l g,zg2 env name=zaV→zai l 4=.lbox g4 [.int .i64 0,.int .i64 0,.str ⟨#[]⟩]→K (.exit 0,⟨⟨l,g⟩,H0⟩)) :
 optW (erun T (.loop zz6) ⟨⟨l0,g0⟩,H0⟩) K:=by
 have b1:=hvb.boxy
 have b0:=hva.boxy
 refine zaN (T:=T) (n:=env.length) (A:=Unit) (fun _ _=>[(4,.lbox g4 [.int .i64 0,.int .i64 0,.str ⟨#[]⟩]),(2,.lbox g2 [va,vb])]) (fun i _ _ H'=>H'=H0∧∀ x∈env.take i,decide (x.var=name)=false) (c:=11) (b:=0) (I:=10) (N:=9) (d:=23) rfl (by omega) (by decide) ⟨rfl,rfl⟩ (by simp) ?_ ?_ 0 () _ _ H0 (by omega) ⟨rfl,by simp⟩ (by simp [h2,h4]) (.refl _ _ _) h10 h9
 ·intro i u l g H' hi ⟨hH,hno⟩ hh hf hI
  subst hH
  have k8:=hf.get 8 rfl h8 (by simp [hva.boxy])
  have k1:=hf.get 1 rfl h1 rfl
  simp only [zaE,zaL,and_true] at hh
  obtain ⟨k4,k2⟩:=hh
  obtain ⟨lt,ix,opt,get,⟨t,sv⟩,_,mem⟩:=zbL (e:=fun b:Bd=>zbB b.var) hva hi (by omega)
  obtain ⟨lt2,ix2,opt2,get2,⟨t2,sv2⟩,_,mem2⟩:=zbL (e:=fun b:Bd=>vlG b.v) hvb hi (by omega)
  generalize env[i]'hi=e at opt get mem opt2 get2 mem2
  have htake:env.take (i+1)=env.take i++[e]:=by rw [List.take_add_one,opt]; rfl
  have u2:=zad hvb
  have o2:=hvb.ok
  have hc0:∀ s,(zbB s).cells=[.str (mkB s)]:=fun _=>rfl
  rw [sv] at k8
  rw [sv2] at k2 u2 o2
  by_cases hq:e.var=name
  ·have hgx:zg2 env name=e.v:=by
    unfold zg2
    rw [zkC (p:=fun b=>decide (b.var=name)) opt (by simp [hq]) hno]
   rw [hgx] at hr
   simp [k8,k1,k2,k4,hI,ix,ix2,opt,hc0,hq,u2,o2,zak,zah,zal,zay]
   exact fun _=>hr _ _ (by simp)
  ·simp [k8,k1,k2,k4,hI,ix,opt,hc0,hq]
   refine fun _=>⟨fun x hx=>?_,sv2.symm⟩
   rw [htake] at hx
   rcases List.mem_append.1 hx with hx | hx
   ·simpa using hno x hx
   ·rw [List.mem_singleton] at hx; subst hx; exact hq
 ·intro u l g H' ⟨hH,hno⟩ hh hf
  subst hH
  rw [List.take_length] at hno
  simp only [zaE,zaL,and_true] at hh
  refine he l g ?_ hh.1
  unfold zg2
  have:(env.find? fun b=>decide (b.var=name))=none:=List.find?_eq_none.2 fun x hx=>by rw [hno x hx]; simp
  rw [this]
theorem zwO (env:List Bd) (hel:env.length≤1000) (va vb:GV) (hva:Elems 1 va (env.map fun b=>zbB b.var)) (hvb:Elems 3 vb (env.map fun b=>vlG b.v)) (name:List UInt8) (H:GH) :
 ecall T zqF [.agg [va,vb],.str (mkB name)] H=some (.agg (vlC (zg2 env name)),H):=by
 have a1:=hva.len
 have a2:=zad hva
 have a3:=hva.ok
 have a4:=hva.one
 have b2:=zad hvb
 have b3:=hvb.ok
 have b4:=hvb.one
 simp only [List.length_map] at a1
 apply optW.eq
 rw [zae zGS rfl (by simp [ztL]),zab]
 simp only [ztL,zDp]
 simp [a1,a2,a3,a4,b2,b3,b4]
 rw [zav,zap]
 refine zwN env hel va vb hva hvb name 0 1 _ _ _ _ (by simp [a2]) (by simp) (by simp) (by simp) (by simp) (by simp) ?_ ?_
 ·intro l g h4
  simp [h4,zak,zah]
 ·intro l g hn h4
  rw [hn]
  simp [h4,zaf,zaa]
  rfl
def zcJ (R:List Evt) (x:Vl) (prop:List UInt8):List Vl:=match zsA x prop with | some z=>zdz R z | none=>[]
theorem zns {R:List Evt} {vr:GV} (h:RowV R vr) (x:Vl) (hx:okV x=true) (prop:List UInt8) (H:GH) :
 ∃ v,ecall T zqG [vr,.agg (vlC x),.str (mkB prop)] H=some (v,H)∧Elems 3 v ((zcJ R x prop).map vlG):=by
 have vu:=h.el.unb
 have vo:=h.el.ok
 have x0:∀ h,(vlC x)[0]'h=.int .i64 x.k:=fun _=>rfl
 have xt:∀ h,(vlC x)[2]'h=.str (mkB x.t):=fun _=>rfl
 have x0':(vlC x)[0]?=some (.int .i64 x.k):=rfl
 have xt':(vlC x)[2]?=some (.str (mkB x.t)):=rfl
 have goal:optW (ecall T zqG [vr,.agg (vlC x),.str (mkB prop)] H) fun r=>∃ v,r=(v,H)∧Elems 3 v ((zcJ R x prop).map vlG):=by
  rw [zbc zGT rfl (by simp [ztM]),zab]
  simp only [ztM,zDq]
  unfold zcJ zsA
  by_cases h4:x.k=4
  ·have n5:¬ (x.k=5∧x.n=0):=by omega
   rw [if_neg n5,if_pos h4]
   obtain ⟨v,c1,c2⟩:=ziy h ⟨4,x.t,[],[],prop⟩ H.over
   simp only [elC,zc0] at c1
   have u2:=zad c2
   have u3:=c2.ok
   obtain ⟨v2,d1,d2⟩:=zbQ (a:=H.objs.length) (b:=H.toks.length) (n:=99) c2 (fun x hx=>by obtain ⟨y,_,rfl⟩:=List.mem_map.1 hx; rfl)
   simp [vu,vo,h4,x0,xt,x0',xt',zak,zah,zal,zaf,zaa,c1,u2,u3,d1]
   exact d2
  ·by_cases h5:x.k=5
   ·have hr:=hx
    unfold okV zbN at hr
    rw [if_neg (by omega),if_neg (by omega),if_neg (by omega),if_neg (by omega),if_neg (by omega),if_pos h5] at hr
    simp only [Bool.and_eq_true,decide_eq_true_eq] at hr
    obtain ⟨hn,hs⟩:=hr
    obtain ⟨⟨a,b,c⟩,hk⟩:=Option.isSome_iff_exists.1 hs
    obtain ⟨y1,y2,y3,hLk,hLs⟩:=zwK (mkB x.t) H.over
    simp at hLk hLs
    obtain ⟨q1,q2,q3⟩:=hLs a b c hk
    have r1:y1=mkB a:=by rw [← q1,zcE]
    have r2:y2=mkB c:=by rw [← q2,zcE]
    have r3:y3=mkB b:=by rw [← q3,zcE]
    subst r1 r2 r3
    rw [if_pos ⟨h5,hn⟩,hk]
    obtain ⟨v,c1,c2⟩:=ziy h ⟨5,a,c,b,prop⟩ H.over
    simp only [elC] at c1
    have u2:=zad c2
    have u3:=c2.ok
    obtain ⟨v2,d1,d2⟩:=zbQ (a:=H.objs.length) (b:=H.toks.length) (n:=99) c2 (fun x hx=>by obtain ⟨y,_,rfl⟩:=List.mem_map.1 hx; rfl)
    simp [vu,vo,h4,h5,x0,xt,x0',xt',zak,zah,zal,zaf,zaa,hLk,c1,u2,u3,d1]
    exact d2
   ·have n5:¬ (x.k=5∧x.n=0):=fun h=>h5 h.1
    rw [if_neg n5,if_neg h4]
    simp [vu,vo,h4,h5,x0,xt,x0',xt',zak,zah,zal,zaf,zaa]
    exact .nil
 obtain ⟨r,hr,v,rfl,h2⟩:=goal
 exact ⟨v,hr,h2⟩
theorem zwP (vr ve vv:GV) (i:Int) (hr:vr.ok=true∧∀ t,zbl t vr=vr) (he:ve.ok=true∧∀ t,zbl t ve=ve) (hv:vv.ok=true∧∀ t,zbl t vv=vv) (x:Vl) (k:Int) (H:GH) (hE:ecall T zw3 [vr,.int .i64 i,ve,vv] H.over=some (.tup [.agg (vlC x),.int .i64 k],H.over)) :
 ecall T znK [vr,.int .i64 i,ve,vv] H=some (.bool (decide (k=0)&&decide (x=zcr true)),H):=by
 obtain ⟨r1,r2⟩:=hr
 obtain ⟨e1,e2⟩:=he
 obtain ⟨v1,v2⟩:=hv
 have hb:=fun b H=>zc1 b H
 apply optW.eq
 rw [zbc zGx rfl (by simp [zts,r1,e1,v1]),zab]
 simp only [zts,zC8]
 by_cases hk:k=0
 ·have hlv:=zdq x true
  simp [r1,r2,e1,e2,v1,v2,hE,hk,zaf,zaa,zak,zah,zal,zay,hb,hlv]
 ·simp [r1,r2,e1,e2,v1,v2,hE,hk,zaf,zaa,zak,zah,zal,zay]
structure EnvAt (H0:GH) (L:List Bd) (s t:GV) (H:GH):Prop where
 ap:∃ own:Nat→Option Nat,Ap own 0 H 1 s (L.map fun b=>zbB b.var)∧Ap own 1 H 3 t (L.map fun b=>vlG b.v)
 objs:H.objs=H0.objs
 bt:H.bt=H0.bt
 toks:H0.toks.length≤H.toks.length
theorem zzT (env:List Bd) (hel:env.length≤1000) (ve:GV) (hve:Elems 4 ve (env.map bdG)) (g3:Nat) (l0:List GV) (g0:Nat) (H0:GH) (hbt:H0.bt≤H0.toks.length) (K:GExit × St→Prop)
 (h6:zai l0 6=ve) (h7:zai l0 7=.int .i64 env.length) (h8:zai l0 8=.int .i64 0) (h3:zai l0 3=.lbox g3 [.nilsl,.nilsl]) (b2:GV) (h2:zai l0 2=b2)
 (he:∀ l g H s t,zai l 3=.lbox g3 [s,t]→zai l 2=b2→EnvAt H0 env s t H→K (.exit 0,⟨⟨l,g⟩,H⟩)) :
 optW (erun T (.loop zz3) ⟨⟨l0,g0⟩,H0⟩) K:=by
 refine zaN (T:=T) (n:=env.length) (A:=GV × GV) (fun _ p=>[(3,.lbox g3 [p.1,p.2]),(2,b2)]) (fun i p _ H'=>EnvAt H0 (env.take i) p.1 p.2 H') (c:=9) (b:=0) (I:=8) (N:=7) (d:=26) rfl (by omega) (by decide) ⟨rfl,rfl⟩ (by simp) ?_ ?_ 0 (.nilsl,.nilsl) _ _ H0 (by omega) ⟨⟨fun _=>none,by simpa using Ap.nil,by simpa using Ap.nil⟩,rfl,rfl,Nat.le_refl _⟩ (by simp [h3,h2]) (.refl _ _ _) h8 h7
 ·intro i p l g H' hi hE hh hf hI
  obtain ⟨s,t⟩:=p
  simp only at hE hh
  have k6:=hf.get 6 rfl h6 (by simp [hve.boxy])
  simp only [zaE,zaL,and_true] at hh
  obtain ⟨k3,k2⟩:=hh
  obtain ⟨lt,ix,opt,get,⟨tg,sv⟩,_,mem⟩:=zbL (e:=bdG) hve hi (by omega)
  generalize env[i]'hi=e at opt get mem
  have htake:env.take (i+1)=env.take i++[e]:=by rw [List.take_add_one,opt]; rfl
  have hlen:(env.take i).length≤i:=by rw [List.length_take]; omega
  rw [htake]
  generalize env.take i=L at hE hlen
  obtain ⟨own,p1,p2⟩:=hE.ap
  have hb:=hE.bt
  have ht:=hE.toks
  obtain ⟨s',H1,a1,a2,⟨a3,a4,a5,a6⟩,own1,q1,q2⟩:=zod (ty:=9) (bytes:=16) (x:=.sl 1 [zbB e.var] .exact) (ys:=[zbB e.var]) p1 (by simp [zbS]) (by omega) (by simp only [List.length_map,List.length_singleton,zeu]; omega) (by simp only [List.length_map,List.length_singleton,maxLen]; omega)
  have p2':=q2 1 (by decide) _ _ _ p2
  obtain ⟨t',H2,c1,c2,⟨c3,c4,c5,c6⟩,own2,r1,r2⟩:=zod (ty:=34) (bytes:=32) (x:=.sl 3 [vlG e.v] .exact) (ys:=[vlG e.v]) p2' (by simp [zbS]) (by omega) (by simp only [List.length_map,List.length_singleton,zeu]; omega) (by simp only [List.length_map,List.length_singleton,maxLen]; omega)
  have q1':=r2 0 (by decide) _ _ _ q1
  rw [sv] at k6
  have hl4:(bdC e).length=4:=rfl
  have ht4:List.take 4 (bdC e)=bdC e:=rfl
  have ho4:(bdC e).all GV.one=true:=rfl
  have hs4:zaa [GV.str ⟨#[]⟩,.int .i64 0,.int .i64 0,.str ⟨#[]⟩] 0 (bdC e)=some (bdC e):=rfl
  have x0:∀ h,(bdC e)[0]'h=.str (mkB e.var):=fun _=>rfl
  have x0':(bdC e)[0]?=some (.str (mkB e.var)):=rfl
  have xd:List.take 3 (List.drop 1 (bdC e))=vlC e.v:=rfl
  have xd':List.take 3 (List.tail (bdC e))=vlC e.v:=rfl
  have su:=zad p1.elems
  have so:=p1.elems.ok
  have tu:=zad p2.elems
  have tok:=p2.elems.ok
  have su':=zad q1'.elems
  have so1:=q1'.elems.one
  have sc:=q1'.elems.cells
  have tu':=zad r1.elems
  have to1:=r1.elems.one
  have tc:=r1.elems.cells
  simp only [zbB] at a1
  simp [k6,k3,k2,hI,ix,opt,hl4,ht4,ho4,hs4,x0,x0',xd,xd',su,so,tu,tok,zan,zaf,a1,a2,c1,c2,su',so1,sc,tu',to1,tc,zaa,zak,zah,zal]
  exact fun _=>⟨⟨own2,by simpa using q1',by simpa using r1⟩,c3.trans (a3.trans hE.objs),c5.trans (a5.trans hb),Nat.le_trans ht (Nat.le_trans a6 c6)⟩
 ·intro p l g H' hE hh hf
  obtain ⟨s,t⟩:=p
  rw [List.take_length] at hE
  simp only [zaE,zaL,and_true] at hh
  exact he l g H' s t hh.1 hh.2 hE
theorem zwQ (env:List Bd) (hel:env.length≤1000) (ve:GV) (hve:Elems 4 ve (env.map bdG)) (H:GH) :
 ∃ va vb,ecall T zs1 [ve] H=some (.agg [va,vb],H)∧Elems 1 va (env.map fun b=>zbB b.var)∧Elems 3 vb (env.map fun b=>vlG b.v):=by
 have a1:=hve.len
 have a2:=zad hve
 have a3:=hve.ok
 simp only [List.length_map] at a1
 have goal:optW (ecall T zs1 [ve] H) fun r=>∃ va vb,r=(.agg [va,vb],H)∧Elems 1 va (env.map fun b=>zbB b.var)∧Elems 3 vb (env.map fun b=>vlG b.v):=by
  rw [zbc zGz rfl (by simp [ztu]),zab]
  simp only [ztu,zDa]
  simp [a1,a2,a3]
  rw [zav,zap]
  refine zzT env hel ve hve 1 _ _ H.over (Nat.le_refl _) _ (by simp [a2]) (by simp) (by simp) (by simp) (.lbox 0 [.nilsl,.nilsl]) (by simp) ?_
  intro l g H1 s t k3 k2 hE
  obtain ⟨own,p1,p2⟩:=hE.ap
  have s1:=p1.elems
  have t1:=p2.elems
  obtain ⟨va,d1,d2⟩:=zbQ (a:=H.objs.length) (b:=H.toks.length) (n:=98) s1 (fun x hx=>by obtain ⟨y,_,rfl⟩:=List.mem_map.1 hx; rfl)
  obtain ⟨vb,f1,f2⟩:=zbQ (a:=H.objs.length) (b:=H.toks.length) (n:=98) t1 (fun x hx=>by obtain ⟨y,_,rfl⟩:=List.mem_map.1 hx; rfl)
  have hcl:zaJ H.objs.length H.toks.length 100 (.agg [s,t])=some (.agg [va,vb]):=by
   show Option.map GV.agg ([s,t].mapM (zaJ H.objs.length H.toks.length 99))=_
   simp only [List.mapM_cons,List.mapM_nil,d1,f1]
   rfl
  simp [k3,k2,s1.one,t1.one,zaa,hcl]
  exact ⟨va,vb,⟨rfl,rfl⟩,d2,f2⟩
 obtain ⟨r,hr,va,vb,rfl,h1,h2⟩:=goal
 exact ⟨va,vb,hr,h1,h2⟩
end Go.Proofs.YtchjbidfmhmmhaaGreatDoor
