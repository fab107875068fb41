/- Own work: the zaG machine and what it shows, part En. -/
import Derived.Test.YtchjbidfmhmmhaaGreatDoorPu
set_option linter.all false
namespace Go.Proofs.YtchjbidfmhmmhaaGreatDoor
open Go.Sh
set_option maxRecDepth 100000
def Has (es:List (GV × GV)) (x:El) (L:List Ent):Prop:=(zaX es (elG x)=none∧L=[])∨∃ v,zaX es (elG x)=some v∧Elems 5 v (L.map zbX)
theorem Has.get {es:List (GV × GV)} {x:El} {L:List Ent} (h:Has es x L):Elems 5 ((zaX es (elG x)).getD .nilsl) (L.map zbX):=by
 rcases h with ⟨h,rfl⟩ | ⟨v,h,hv⟩
 ·rw [h]; exact .nil
 ·rw [h]; exact hv
theorem zbc {call:Nat→List GV→GH→Option (GV × GH)} {l:List GV} {g:Nat} {H:GH} (args:List GV):zao call .freeze args ⟨l,g⟩ H=zha (zaR H args) g:=rfl
theorem zdc (H:GH):zaR H [.nilsl]=some (.nilsl,H):=rfl
theorem zd5 {x y:El} (h:elG x=elG y):x=y:=by
 obtain ⟨k,a,b,c,d⟩:=x
 obtain ⟨k',a',b',c',d'⟩:=y
 simp only [elC,GV.agg.injEq,List.cons.injEq,GV.int.injEq,GV.str.injEq,and_true,true_and] at h
 obtain ⟨h1,h2,h3,h4,h5⟩:=h
 have q:∀ u v:List UInt8,mkB u=mkB v→u=v:=fun u v h=>by
  have:=congrArg (fun b:ByteArray=>b.data.toList) h
  simpa [zbE] using this
 rw [h1,q _ _ h2,q _ _ h3,q _ _ h4,q _ _ h5]
def zEq (es:List (GV × GV)):Prop:=∀ p∈es,zaA true kLs p.1=true
theorem zuI {k:GV} (hk:zaA true kLs k=true):zbZ k k=true:=(zaL hk hk).2 rfl
structure Cut (L:List Ent) (x:Ent) (i:Nat):Prop where
 le:i≤L.length
 lo:∀ k,k<i→zdv (L.getD k default) x<0
 hi:∀ k,i≤k→k<L.length→¬ zdv (L.getD k default) x<0
def Split (L:List Ent) (x:Ent):Prop:=∀ k k',k≤k'→k'<L.length→zdv (L.getD k' default) x<0→zdv (L.getD k default) x<0
theorem zuJ {i j:Nat} (h:i+j≤2000000):zhL .shr .u64 (IntKind.u64.wrap ((i:Int)+j)) 1=some (.int .u64 (((i+j) / 2:Nat):Int)):=by
 have h1:IntKind.u64.wrap ((i:Int)+j)=((i+j:Nat):Int):=by
  simp [IntKind.wrap,IntKind.bits,IntKind.signed]; omega
 rw [h1]
 have h2:IntKind.u64.wrap ((((i+j:Nat):Int)) / 2)=(((i+j) / 2:Nat):Int):=by
  simp [IntKind.wrap,IntKind.bits,IntKind.signed]; omega
 simp [zhL,IntKind.bits]
 rw [Int.fdiv_eq_ediv_of_nonneg _ (by decide)]
set_option maxHeartbeats 4000000 in
theorem zuK (L:List Ent) (hL:L.length≤1000000) (x:Ent) (hs:Split L x) (v:GV) (hv:Elems 5 v (L.map zbX)) (l0:List GV) (g0 gb:Nat) (H0:GH) (K:GExit × St→Prop)
 (h0:zag l0 0=v) (h2:zag l0 2=.func 57 [] []) (h4:zag l0 4=.lbox gb (zcY x)) (h9:zag l0 9=.int .i64 0) (h10:zag l0 10=.int .i64 L.length)
 (he:∀ l g i,Cut L x i→zag l 9=.int .i64 i→zag l 4=.lbox gb (zcY x)→Fr zi4 l0 l→K (.exit 0,⟨⟨l,g⟩,H0⟩)) :
 optW (erun T (.loop zi4) ⟨⟨l0,g0⟩,H0⟩) K:=by
 refine zeH (l0:=l0) (fun m l g H=>H=H0∧zag l 4=.lbox gb (zcY x)∧∃ i j:Nat,m=j - i∧i≤j∧j≤L.length∧zag l 9=.int .i64 i∧zag l 10=.int .i64 j∧(∀ k,k<i→zdv (L.getD k default) x<0)∧(∀ k,j≤k→k<L.length→¬ zdv (L.getD k default) x<0)) ?_ L.length l0 g0 H0 ⟨rfl,h4,0,L.length,rfl,Nat.zero_le _,Nat.le_refl _,h9,h10,fun k h=>absurd h (Nat.not_lt_zero k),fun k h h'=>absurd h' (by omega)⟩ (.refl _ _ _)
 intro m l g H ⟨hH,q4,i,j,hm,hij,hjn,q9,q10,lo,hi⟩ hf
 subst hH
 have q0:=hf.get 0 rfl h0 (by simp [hv.boxy])
 have q2:=hf.get 2 rfl h2 (by simp [GV.boxy])
 simp only [zcY] at q4
 by_cases hlt:i<j
 ·have hlt':(i:Int)<j:=by omega
  have hh:(i+j) / 2<L.length:=by omega
  obtain ⟨lt,ix,opt,get,⟨t,sl⟩,wr_,mem⟩:=zeU (e:=zbX) hv hh (by omega)
  generalize L[(i+j) / 2]'hh=e at opt get mem
  have hgd:L.getD ((i+j) / 2) default=e:=by simp [List.getD,opt]
  have hc:=zuJ (i:=i) (j:=j) (by omega)
  have hc2:IntKind.i64.wrap (((i+j) / 2:Nat):Int)=(((i+j) / 2:Nat):Int):=zam (by omega) (by omega)
  have hc3:IntKind.i64.wrap ((((i+j) / 2:Nat):Int)+1)=((((i+j) / 2:Nat):Int)+1):=zam (by omega) (by omega)
  generalize hq:(i+j) / 2=q at *
  have hw:IntKind.i64.wrap ((i:Int)+j)=((i+j:Nat):Int):=by rw [zam (by omega) (by omega)]; omega
  have hbd:=fun H=>zhr e x H
  simp only [zcY] at hbd
  rw [sl] at q0
  have lo':∀ k,k<i→zdv (L[k]?.getD default) x<0:=fun k hk=>by rw [← List.getD_eq_getElem?_getD]; exact lo k hk
  have hi':∀ k,j≤k→k<L.length→0≤zdv (L[k]?.getD default) x:=fun k hk hk'=>by rw [← List.getD_eq_getElem?_getD]; have:=hi k hk hk'; omega
  by_cases ho:zdv e x<0
  ·simp [zi4,q0,q2,q4,q9,q10,hlt',hw,hc,hc2,hc3,ix,opt,zcY,hbd,ho]
   refine ⟨j - (q+1),by omega,q+1,j,rfl,by omega,hjn,by simp,rfl,fun k hk=>?_,hi'⟩
   rw [← List.getD_eq_getElem?_getD]
   exact hs k q (by omega) hh (by rw [hgd]; exact ho)
  ·have ho':0≤zdv e x:=by omega
   simp [zi4,q0,q2,q4,q9,q10,hlt',hw,hc,hc2,hc3,ix,opt,zcY,hbd,ho]
   refine ⟨q - i,by omega,i,q,rfl,by omega,by omega,rfl,rfl,lo',fun k hk hk'=>?_⟩
   rcases Nat.lt_or_ge k j with hkj | hkj
   ·have:¬ zdv (L.getD k default) x<0:=fun hc=>ho (by rw [← hgd]; exact hs q k hk hk' hc)
    rw [← List.getD_eq_getElem?_getD]; omega
   ·exact hi' k hkj hk'
 ·have hlt':¬ (i:Int)<j:=by omega
  have hij':i=j:=by omega
  subst hij'
  simp [zi4,q9,q10]
  exact fun hf'=>he _ _ i ⟨hjn,lo,hi⟩ (by simp [q9]) (by simp [q4,zcY]) hf'
set_option maxHeartbeats 4000000 in
theorem zoB (L:List Ent) (hL:L.length≤1000000) (x:Ent) (hs:Split L x) (v:GV) (hv:Elems 5 v (L.map zbX)) (H:GH) :
 ∃ (i:Nat) (b:Bool),Cut L x i∧ecall T zmf [v,zbX x,.func 57 [] []] H=some (.tup [.int .i64 i,.bool b],H):=by
 have key:optW (ecall T zmf [v,zbX x,.func 57 [] []] H) fun r=>∃ (i:Nat) (b:Bool),Cut L x i∧r=(.tup [.int .i64 i,.bool b],H):=by
  rw [zad zCL rfl (by simp [zrv]),zab]
  simp only [zrv,zzW]
  have hle:=hv.len
  have hue:=zaf hv
  have hok:=hv.ok
  simp only [List.length_map] at hle
  simp [hle,hue,hok]
  rw [zay,zar]
  refine zuK L hL x hs v hv _ _ 0 H _ (by simp [hue]) (by simp) (by simp) (by simp) (by simp) ?_
  intro l g i hc h9 h4 hf
  have q0:=hf.get 0 rfl (v:=v) (by simp [hue]) (by simp [hv.boxy])
  have q2:=hf.get 2 rfl (v:=.func 57 [] []) (by simp) (by simp [GV.boxy])
  have q8:=hf.get 8 rfl (v:=.int .i64 L.length) (by simp) (by simp [GV.boxy])
  simp only [zcY] at h4
  by_cases hlt:i<L.length
  ·have hlt':(i:Int)<L.length:=by omega
   obtain ⟨lt,ix,opt,get,⟨t,sl⟩,wr_,mem⟩:=zeU (e:=zbX) hv hlt (by omega)
   generalize L[i]'hlt=e at opt get mem
   have hbd:=fun H=>zhr e x H
   simp only [zcY] at hbd
   rw [sl] at q0
   simp [q0,q2,q8,h9,h4,hlt',ix,opt,zcY,hbd]
   exact ⟨i,hc,by by_cases h0:zdv e x=0 <;> simp [h0]⟩
  ·have hlt':¬ (i:Int)<L.length:=by omega
   simp [q0,q2,q8,h9,h4,hlt']
   exact ⟨i,hc,rfl⟩
 obtain ⟨⟨r,H'⟩,h1,i,b,hc,h2⟩:=key
 exact ⟨i,b,hc,by rw [h1,h2]⟩
end Go.Proofs.YtchjbidfmhmmhaaGreatDoor
