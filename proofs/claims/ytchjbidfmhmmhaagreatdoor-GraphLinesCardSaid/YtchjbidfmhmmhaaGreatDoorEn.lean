/- Own work: the zaO machine and what it shows, part En. -/
import Derived.Test.YtchjbidfmhmmhaaGreatDoorPu
set_option linter.all false
namespace Go.Proofs.YtchjbidfmhmmhaaGreatDoor
open Go.Sh
set_option maxRecDepth 100000
def Has (es:List (GV × GV)) (x:El) (L:List Ent):Prop:=(za5 es (elG x)=none∧L=[])∨∃ v,za5 es (elG x)=some v∧Elems 5 v (L.map zb8)
theorem Has.get {es:List (GV × GV)} {x:El} {L:List Ent} (h:Has es x L):Elems 5 ((za5 es (elG x)).getD .nilsl) (L.map zb8):=by
 rcases h with ⟨h,rfl⟩ | ⟨v,h,hv⟩
 ·rw [h]; exact .nil
 ·rw [h]; exact hv
theorem zbk {call:Nat→List GV→GH→Option (GV × GH)} {l:List GV} {g:Nat} {H:GH} (args:List GV):zas call .freeze args ⟨l,g⟩ H=zhS (zaW H args) g:=rfl
theorem zdy (H:GH):zaW H [.nilsl]=some (.nilsl,H):=rfl
theorem zex {x y:El} (h:elG x=elG y):x=y:=by
 obtain ⟨k,a,b,c,d⟩:=x
 obtain ⟨k',a',b',c',d'⟩:=y
 simp only [elC,GV.agg.injEq,List.cons.injEq,GV.int.injEq,GV.str.injEq,and_true,true_and] at h
 obtain ⟨h1,h2,h3,h4,h5⟩:=h
 have q:∀ u v:List UInt8,mkB u=mkB v→u=v:=fun u v h=>by
  have:=congrArg (fun b:ByteArray=>b.data.toList) h
  simpa [zbn] using this
 rw [h1,q _ _ h2,q _ _ h3,q _ _ h4,q _ _ h5]
def zG7 (es:List (GV × GV)):Prop:=∀ p∈es,zaC true kLs p.1=true
theorem zwQ {k:GV} (hk:zaC true kLs k=true):zca k k=true:=(zaQ hk hk).2 rfl
structure Cut (L:List Ent) (x:Ent) (i:Nat):Prop where
 le:i≤L.length
 lo:∀ k,k<i→zdT (L.getD k default) x<0
 hi:∀ k,i≤k→k<L.length→¬ zdT (L.getD k default) x<0
def Split (L:List Ent) (x:Ent):Prop:=∀ k k',k≤k'→k'<L.length→zdT (L.getD k' default) x<0→zdT (L.getD k default) x<0
theorem zwR {i j:Nat} (h:i+j≤2000000):ziw .shr .u64 (IntKind.u64.wrap ((i:Int)+j)) 1=some (.int .u64 (((i+j) / 2:Nat):Int)):=by
 have h1:IntKind.u64.wrap ((i:Int)+j)=((i+j:Nat):Int):=by
  simp [IntKind.wrap,IntKind.bits,IntKind.signed]; omega
 rw [h1]
 have h2:IntKind.u64.wrap ((((i+j:Nat):Int)) / 2)=(((i+j) / 2:Nat):Int):=by
  simp [IntKind.wrap,IntKind.bits,IntKind.signed]; omega
 simp [ziw,IntKind.bits]
 rw [Int.fdiv_eq_ediv_of_nonneg _ (by decide)]
set_option maxHeartbeats 4000000 in
theorem zwS (L:List Ent) (hL:L.length≤1000000) (x:Ent) (hs:Split L x) (v:GV) (hv:Elems 5 v (L.map zb8)) (l0:List GV) (g0 gb:Nat) (H0:GH) (K:GExit × St→Prop)
 (h0:zad l0 0=v) (h2:zad l0 2=.func 57 [] []) (h4:zad l0 4=.lbox gb (zdg x)) (h9:zad l0 9=.int .i64 0) (h10:zad l0 10=.int .i64 L.length)
 (he:∀ l g i,Cut L x i→zad l 9=.int .i64 i→zad l 4=.lbox gb (zdg x)→Fr zjV l0 l→K (.exit 0,⟨⟨l,g⟩,H0⟩)) :
 optW (erun T (.loop zjV) ⟨⟨l0,g0⟩,H0⟩) K:=by
 refine zcG (l0:=l0) (fun m l g H=>H=H0∧zad l 4=.lbox gb (zdg x)∧∃ i j:Nat,m=j - i∧i≤j∧j≤L.length∧zad l 9=.int .i64 i∧zad l 10=.int .i64 j∧(∀ k,k<i→zdT (L.getD k default) x<0)∧(∀ k,j≤k→k<L.length→¬ zdT (L.getD k default) x<0)) ?_ L.length l0 g0 H0 ⟨rfl,h4,0,L.length,rfl,Nat.zero_le _,Nat.le_refl _,h9,h10,fun k h=>absurd h (Nat.not_lt_zero k),fun k h h'=>absurd h' (by omega)⟩ (.refl _ _ _)
 intro m l g H ⟨hH,q4,i,j,hm,hij,hjn,q9,q10,lo,hi⟩ hf
 subst hH
 have q0:=hf.get 0 rfl h0 (by simp [hv.boxy])
 have q2:=hf.get 2 rfl h2 (by simp [GV.boxy])
 simp only [zdg] at q4
 by_cases hlt:i<j
 ·have hlt':(i:Int)<j:=by omega
  have hh:(i+j) / 2<L.length:=by omega
  obtain ⟨lt,ix,opt,get,⟨t,sl⟩,wr_,mem⟩:=zbX (e:=zb8) hv hh (by omega)
  generalize L[(i+j) / 2]'hh=e at opt get mem
  have hgd:L.getD ((i+j) / 2) default=e:=by simp [List.getD,opt]
  have hc:=zwR (i:=i) (j:=j) (by omega)
  have hc2:IntKind.i64.wrap (((i+j) / 2:Nat):Int)=(((i+j) / 2:Nat):Int):=zan (by omega) (by omega)
  have hc3:IntKind.i64.wrap ((((i+j) / 2:Nat):Int)+1)=((((i+j) / 2:Nat):Int)+1):=zan (by omega) (by omega)
  generalize hq:(i+j) / 2=q at *
  have hw:IntKind.i64.wrap ((i:Int)+j)=((i+j:Nat):Int):=by rw [zan (by omega) (by omega)]; omega
  have hbd:=fun H=>zh8 e x H
  simp only [zdg] at hbd
  rw [sl] at q0
  have lo':∀ k,k<i→zdT (L[k]?.getD default) x<0:=fun k hk=>by rw [← List.getD_eq_getElem?_getD]; exact lo k hk
  have hi':∀ k,j≤k→k<L.length→0≤zdT (L[k]?.getD default) x:=fun k hk hk'=>by rw [← List.getD_eq_getElem?_getD]; have:=hi k hk hk'; omega
  by_cases ho:zdT e x<0
  ·simp [zjV,q0,q2,q4,q9,q10,hlt',hw,hc,hc2,hc3,ix,opt,zdg,hbd,ho]
   refine ⟨j - (q+1),by omega,q+1,j,rfl,by omega,hjn,by simp,rfl,fun k hk=>?_,hi'⟩
   rw [← List.getD_eq_getElem?_getD]
   exact hs k q (by omega) hh (by rw [hgd]; exact ho)
  ·have ho':0≤zdT e x:=by omega
   simp [zjV,q0,q2,q4,q9,q10,hlt',hw,hc,hc2,hc3,ix,opt,zdg,hbd,ho]
   refine ⟨q - i,by omega,i,q,rfl,by omega,by omega,rfl,rfl,lo',fun k hk hk'=>?_⟩
   rcases Nat.lt_or_ge k j with hkj | hkj
   ·have:¬ zdT (L.getD k default) x<0:=fun hc=>ho (by rw [← hgd]; exact hs q k hk hk' hc)
    rw [← List.getD_eq_getElem?_getD]; omega
   ·exact hi' k hkj hk'
 ·have hlt':¬ (i:Int)<j:=by omega
  have hij':i=j:=by omega
  subst hij'
  simp [zjV,q9,q10]
  exact fun hf'=>he _ _ i ⟨hjn,lo,hi⟩ (by simp [q9]) (by simp [q4,zdg]) hf'
set_option maxHeartbeats 4000000 in
theorem zpY (L:List Ent) (hL:L.length≤1000000) (x:Ent) (hs:Split L x) (v:GV) (hv:Elems 5 v (L.map zb8)) (H:GH) :
 ∃ (i:Nat) (b:Bool),Cut L x i∧ecall T znB [v,zb8 x,.func 57 [] []] H=some (.tup [.int .i64 i,.bool b],H):=by
 have key:optW (ecall T znB [v,zb8 x,.func 57 [] []] H) fun r=>∃ (i:Nat) (b:Bool),Cut L x i∧r=(.tup [.int .i64 i,.bool b],H):=by
  rw [zag zFm rfl (by simp [ztn]),zab]
  simp only [ztn,zCh]
  have hle:=hv.len
  have hue:=zac hv
  have hok:=hv.ok
  simp only [List.length_map] at hle
  simp [hle,hue,hok]
  rw [zao,zai]
  refine zwS L hL x hs v hv _ _ 0 H _ (by simp [hue]) (by simp) (by simp) (by simp) (by simp) ?_
  intro l g i hc h9 h4 hf
  have q0:=hf.get 0 rfl (v:=v) (by simp [hue]) (by simp [hv.boxy])
  have q2:=hf.get 2 rfl (v:=.func 57 [] []) (by simp) (by simp [GV.boxy])
  have q8:=hf.get 8 rfl (v:=.int .i64 L.length) (by simp) (by simp [GV.boxy])
  simp only [zdg] at h4
  by_cases hlt:i<L.length
  ·have hlt':(i:Int)<L.length:=by omega
   obtain ⟨lt,ix,opt,get,⟨t,sl⟩,wr_,mem⟩:=zbX (e:=zb8) hv hlt (by omega)
   generalize L[i]'hlt=e at opt get mem
   have hbd:=fun H=>zh8 e x H
   simp only [zdg] at hbd
   rw [sl] at q0
   simp [q0,q2,q8,h9,h4,hlt',ix,opt,zdg,hbd]
   exact ⟨i,hc,by by_cases h0:zdT e x=0 <;> simp [h0]⟩
  ·have hlt':¬ (i:Int)<L.length:=by omega
   simp [q0,q2,q8,h9,h4,hlt']
   exact ⟨i,hc,rfl⟩
 obtain ⟨⟨r,H'⟩,h1,i,b,hc,h2⟩:=key
 exact ⟨i,b,hc,by rw [h1,h2]⟩
end Go.Proofs.YtchjbidfmhmmhaaGreatDoor
