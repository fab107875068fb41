/- Own work: the zaO machine and what it shows, part Vs. -/
import Derived.Test.YtchjbidfmhmmhaaGreatDoorCo
import Derived.Test.YtchjbidfmhmmhaaGreatDoorLv
set_option linter.all false
namespace Go.Proofs.YtchjbidfmhmmhaaGreatDoor
open Go.Sh
set_option maxHeartbeats 4000000
set_option maxRecDepth 100000
def zno:List UInt8→List UInt8→Option Int
 | x::a,y::b=>if x=y then zno a b else some (if x<y then -1 else 1)
 | _,_=>none
theorem u8_lt {x y:UInt8} : (x.toNat:Int)<y.toNat↔x<y:=by
 rw [UInt8.lt_iff_toNat_lt]; omega
theorem zwl (a b:ByteArray) (ha:a.size≤9223372036854775807) (k1 k2 m1 m2:GV) (g2 g3:Nat) (cs:List UInt8):∀ (i:Nat) (_:a.data.toList.drop i=cs) (l:List GV) (g:Nat) (H:GH) (K:GExit × St→Prop)
 (_:zad l 2=.lbox g2 [k1,m1,.str a]) (_:zad l 3=.lbox g3 [k2,m2,.str b]) (_:zad l 5=.int .i64 i)
 (_:∀ l' v,zno cs (b.data.toList.drop i)=some v→zad l' 4=.int .i64 v→K (.ret,⟨⟨l',g⟩,H⟩))
 (_:∀ l',zno cs (b.data.toList.drop i)=none→zad l' 2=zad l 2→zad l' 3=zad l 3→K (.exit 0,⟨⟨l',g⟩,H⟩)),
 optW (erun T (.loop zib) ⟨⟨l,g⟩,H⟩) K:=by
 induction cs with
 | nil =>
  intro i hd l g H K h2 h3 h5 hr he
  have hlen:=zcy hd
  have hge:¬ ((i:Int)<a.size):=by
   have:a.size=a.data.toList.length:=by simp
   omega
  rw [zam]
  simp [zib,h2,h3,h5,hge]
  exact he _ (by simp [zno]) (by simp [h2]) (by simp [h3])
 | cons c cs ih =>
  intro i hd l g H K h2 h3 h5 hr he
  obtain ⟨hg,hi,hd'⟩:=zcd hd
  have hsz:a.size=a.data.toList.length:=by simp
  have hlt:(i:Int)<a.size:=by omega
  have hix:gIx a.size (.int .i64 i)=some i:=by
   simp only [gIx]; rw [if_pos (by omega)]; simp
  have hw:IntKind.i64.wrap ((i:Int)+1)=(i:Int)+1:=zan (by omega) (by omega)
  rw [zam,zao]
  cases hbd:b.data.toList.drop i with
  | nil =>
   have hlenb:=zcy hbd
   have hge:¬ ((i:Int)<b.size):=by
    have:b.size=b.data.toList.length:=by simp
    omega
   simp [zib,h2,h3,h5,hlt,hge]
   exact he _ (by rw [hbd]; rfl) (by simp [h2]) (by simp [h3])
  | cons d ds =>
   obtain ⟨hgb,hib,hdb⟩:=zcd hbd
   have hg':a.data[i]?=some c:=by simpa using hg
   have hgb':b.data[i]?=some d:=by simpa using hgb
   have hszb:b.size=b.data.toList.length:=by simp
   have hltb:(i:Int)<b.size:=by omega
   have hixb:gIx b.size (.int .i64 i)=some i:=by
    simp only [gIx]; rw [if_pos (by omega)]; simp
   by_cases hcd:c=d
   ·subst hcd
    simp [zib,h2,h3,h5,hlt,hltb,hix,hixb,zbP,hg',hgb',hw]
    refine ih (i+1) hd' _ g H K ?_ ?_ ?_ ?_ ?_
    ·simp [h2]
    ·simp [h3]
    ·simp
    ·intro l' v h h4
     refine hr l' v ?_ h4
     rw [hbd]; simpa [zno,hdb] using h
    ·intro l' h p q
     refine he l' ?_ (by rw [p]; simp) (by rw [q]; simp)
     rw [hbd]; simpa [zno,hdb] using h
   ·have hne:¬ ((c.toNat:Int)=d.toNat):=fun h=>hcd (u8_ne.1 h)
    by_cases hlt2:c<d
    ·have hlt3:=u8_lt.2 hlt2
     simp [zib,h2,h3,h5,hlt,hltb,hix,hixb,zbP,hg',hgb',hne,hlt3]
     refine hr _ (-1) ?_ ?_
     ·rw [hbd]; simp [zno,hcd,hlt2]
     ·simp
    ·have hlt3:¬ ((c.toNat:Int)<d.toNat):=fun h=>hlt2 (u8_lt.1 h)
     simp [zib,h2,h3,h5,hlt,hltb,hix,hixb,zbP,hg',hgb',hne,hlt3]
     refine hr _ 1 ?_ ?_
     ·rw [hbd]; simp [zno,hcd,hlt2]
     ·simp
theorem zpN:∀ (a b:List UInt8),(match zno a b with | some v=>v | none=>zdt a.length b.length)=zch a b
 | [],[]=>by simp [zno,zch,zdt]
 | [],y::b=>by
  have:((0:Nat):Int)<((y::b).length:Int):=by simp
  simp only [zno,zch,zdt,List.length_nil]
  rw [if_pos this]
 | x::a,[]=>by
  have:((0:Nat):Int)<((x::a).length:Int):=by simp
  simp only [zno,zch,zdt,List.length_nil]
  rw [if_neg (by omega),if_pos this]
 | x::a,y::b=>by
  have ih:=zpN a b
  by_cases h:x=y
  ·subst h
   simp only [zno,zch,if_true]
   rw [← ih]
   cases zno a b with
   | some v=>rfl
   | none =>
    simp only [zdt,List.length_cons]
    congr 1
    ·simp
    ·simp
  ·simp [zno,zch,h]
def zA9 (a b:ByteArray):Int:=match zno a.data.toList b.data.toList with
 | some v=>v
 | none=>zdt a.size b.size
def zEN (k n:Int) (s:ByteArray) (k' n':Int) (s':ByteArray):Int :=
 if k≠k' then (if k<k' then -1 else 1) else if n≠n' then (if n<n' then -1 else 1) else zA9 s s'
theorem zBa (k n:Int) (s:ByteArray) (k' n':Int) (s':ByteArray) (hs:s.size≤9223372036854775807) (H:GH):ecall T zsB [.agg [.int .i64 k,.int .i64 n,.str s],.agg [.int .i64 k',.int .i64 n',.str s']] H=some (.int .i64 (zEN k n s k' n' s'),H):=by
 apply optW.eq
 rw [zag zFB rfl (by simp [znM]),zab]
 unfold zEN
 by_cases hk:k=k'
 ·subst hk
  by_cases hn:n=n'
  ·subst hn
   simp [znM,zxm]
   rw [zao,zai]
   refine zwl s s' hs (.int .i64 k) (.int .i64 k) (.int .i64 n) (.int .i64 n) 0 1 s.data.toList 0 (by simp) _ _ _ _ ?_ ?_ ?_ ?_ ?_
   ·simp
   ·simp
   ·simp
   ·intro l' v hd h4
    simp at hd
    simp [h4,zA9,hd]
   ·intro l' hd h2 h3
    simp at hd h2 h3
    by_cases h1:(s.size:Int)<s'.size
    ·simp [h2,h3,zA9,hd,zdt,h1]
    ·by_cases h1':(s'.size:Int)<s.size
     ·simp [h2,h3,zA9,hd,zdt,h1,h1']
     ·simp [h2,h3,zA9,hd,zdt,h1,h1']
  ·by_cases h:n<n' <;> simp [znM,zxm,hn,h]
 ·by_cases h:k<k' <;> simp [znM,zxm,hk,h]
theorem zy6 (x y:Vl):zEN x.k x.n (mkB x.t) y.k y.n (mkB y.t)=zet x y:=by
 have hs:zA9 (mkB x.t) (mkB y.t)=zch x.t y.t:=by
  unfold zA9
  have:=zpN x.t y.t
  simp only [zbn,zee]
  rw [← this]
 unfold zEN zet
 rw [hs]
 by_cases h1:x.k=y.k
 ·have e1:=(zbY x.k y.k).2 h1
  by_cases h2:x.n=y.n
  ·have e2:=(zbY x.n y.n).2 h2
   simp [h1,h2,orL,zdt]
  ·have e2:zdt x.n y.n≠0:=fun h=>h2 ((zbY _ _).1 h)
   by_cases h3:x.n<y.n
   ·simp [h1,h2,h3,orL,zdt]
   ·have h4:y.n<x.n:=by omega
    simp [h1,h2,h3,h4,orL,zdt]
 ·by_cases h3:x.k<y.k
  ·simp [h1,h3,orL,zdt]
  ·have h4:y.k<x.k:=by omega
   simp [h1,h3,h4,orL,zdt]
theorem zoW (x y:Vl) (hx:x.t.length≤1048576) (H:GH):ecall T zsB [.agg (vlC x),.agg (vlC y)] H=some (.int .i64 (zet x y),H):=by
 rw [← zy6]
 exact zBa _ _ _ _ _ _ (by rw [zee]; omega) H
deriving instance DecidableEq for Vl
def zcI (vs:List Vl):List GV:=vs.flatMap vlC
abbrev vlG (v:Vl):GV:=.agg (vlC v)
theorem ze4 (v:Vl) (vs:List Vl):zcI (v::vs)=vlC v++zcI vs:=by simp [zcI]
theorem zcJ (A B:List Vl):zcI (A++B)=zcI A++zcI B:=by simp [zcI]
theorem zde:∀ vs:List Vl,(zcI vs).length=vs.length * 3
 | []=>rfl
 | v::vs=>by
  rw [ze4,List.length_append,zde vs,List.length_cons]
  show 3+_=_; omega
theorem zlD {L:List Vl} {i:Nat} {e:Vl} (h:L[i]?=some e):((zcI L).drop (i * 3)).take 3=vlC e:=by
 induction L generalizing i with
 | nil=>simp at h
 | cons y L ih =>
  rw [ze4]
  cases i with
  | zero =>
   simp at h; subst h
   simp [vlC]
  | succ i =>
   simp only [List.getElem?_cons_succ] at h
   have:(vlC y++zcI L).drop ((i+1) * 3)=(zcI L).drop (i * 3):=by
    rw [show (i+1) * 3=3+i * 3 by omega,← List.drop_drop]
    simp [vlC]
   rw [this]; exact ih h
theorem zy7 (A:List Vl) (y e:Vl) (B:List Vl):(zcI (A++y::B)).take (A.length * 3)++(vlC e++(zcI (A++y::B)).drop (A.length * 3+3))=zcI (A++e::B):=by
 have hA:=zde A
 rw [zcJ,zcJ,ze4,ze4]
 have e1:(zcI A++(vlC y++zcI B)).take (A.length * 3)=zcI A:=by rw [← hA,List.take_left']; rfl
 have e2:(zcI A++(vlC y++zcI B)).drop (A.length * 3+3)=zcI B:=by
  rw [← hA,List.drop_append]
  simp [vlC]
 rw [e1,e2]
def zcz (H:GH) (id:Nat) (R:List Vl):GH:={ H with objs:=H.objs.set id (.row 34 (zcI R)) }
theorem ze5 {H:GH} {id:Nat} (h:id<H.objs.length) (R:List Vl):(zcz H id R).objs[id]?=some (.row 34 (zcI R)):=by simp [zcz,h]
theorem zr1 {H:GH} {id:Nat} {R:List Vl} (h:H.objs[id]?=some (.row 34 (zcI R))):zcz H id R=H:=by
 have hid:=(List.getElem?_eq_some_iff.1 h).1
 have:H.objs.set id (.row 34 (zcI R))=H.objs:=by
  apply List.ext_getElem?
  intro k
  by_cases hk:id=k
  ·subst hk; rw [List.getElem?_set_self hid,h]
  ·rw [List.getElem?_set_ne hk]
 simp [zcz,this]
def zdh (vs:List Vl):Nat→List Vl
 | 0=>[]
 | n+1=>match vs[n]? with
  | some v=>if n≠0∧vs[n - 1]?=some v then zdh vs n else zdh vs n++[v]
  | none=>zdh vs n
theorem znh {vs:List Vl} {n:Nat} {v w:Vl} (h:vs[n+1]?=some v) (h':vs[n]?=some w):zdh vs (n+2)=if v=w then zdh vs (n+1) else zdh vs (n+1)++[v]:=by
 rw [zdh,h]
 simp only [Nat.add_sub_cancel,h']
 by_cases e:v=w
 ·rw [if_pos ⟨by omega,by rw [e]⟩,if_pos e]
 ·rw [if_neg (fun h=>e (by injection h.2 with h; exact h.symm)),if_neg e]
theorem zpO (vs:List Vl):∀ n,(zdh vs n).length≤n
 | 0=>Nat.le_refl _
 | n+1=>by
  have:=zpO vs n
  rw [zdh]
  split
  ·split
   ·omega
   ·rw [List.length_append,List.length_singleton]; omega
  ·omega
theorem zEg (vs:List Vl) (hn:vs.length≤1000000) (id k0:Nat) (hk0:1≤k0) (hk1:k0<vs.length) (hA0:zdh vs (k0+1)=vs.take k0) (l0:List GV) (g0:Nat) (H0:GH) (hid:id<H0.objs.length) (hbo:H0.bo≤id) (K:GExit × St→Prop)
 (h0:zad l0 0=.hsl id 0 vs.length 3 false) (h4:zad l0 4=.hsl id (k0 * 3) (vs.length - k0) 3 false) (h3:zad l0 3=.int .i64 k0) (h5:zad l0 5=.int .i64 1)
 (he:∀ l g,zad l 3=.int .i64 (zdh vs vs.length).length→(zdh vs vs.length).length<vs.length→Fr zjZ l0 l→K (.exit 2,⟨⟨l,g⟩,zcz H0 id (zdh vs vs.length++vs.drop (zdh vs vs.length).length)⟩)) :
 optW (erun T (.loop zjZ) ⟨⟨l0,g0⟩,zcz H0 id vs⟩) K:=by
 refine zcG (l0:=l0) (fun m l g H=>∃ j:Nat,m=vs.length - (k0+j)∧1≤j∧k0+j≤vs.length∧(zdh vs (k0+j)).length≤k0+j - 1∧H=zcz H0 id (zdh vs (k0+j)++vs.drop (zdh vs (k0+j)).length)∧zad l 3=.int .i64 (zdh vs (k0+j)).length∧zad l 5=.int .i64 j) ?_ (vs.length - (k0+1)) l0 g0 _ ⟨1,rfl,Nat.le_refl _,by omega,by rw [hA0,List.length_take]; omega,by rw [hA0,List.length_take,Nat.min_eq_left (by omega),List.take_append_drop],by rw [hA0,List.length_take,Nat.min_eq_left (by omega)]; exact h3,h5⟩ (.refl _ _ _)
 intro m l g H ⟨j,hm,hj1,hj,hA,hH,q3,q5⟩ hf
 subst hH
 have q0:=hf.get 0 rfl h0 (by simp [GV.boxy])
 have q4:=hf.get 4 rfl h4 (by simp [GV.boxy])
 by_cases hlt:k0+j<vs.length
 ·have hlt':(j:Int)<((vs.length - k0:Nat):Int):=by omega
  obtain ⟨w,hw⟩:∃ w,vs[k0+j]?=some w:=⟨_,List.getElem?_eq_getElem hlt⟩
  obtain ⟨u,hu⟩:∃ u,vs[k0+j - 1]?=some u:=⟨_,List.getElem?_eq_getElem (by omega)⟩
  have hst:zdh vs (k0+j+1)=if w=u then zdh vs (k0+j) else zdh vs (k0+j)++[w]:=by
   have:=znh (vs:=vs) (n:=k0+j - 1) (v:=w) (w:=u) (by rw [show k0+j - 1+1=k0+j by omega]; exact hw) hu
   rw [show k0+j - 1+2=k0+j+1 by omega,show k0+j - 1+1=k0+j by omega] at this
   exact this
  generalize hAe:zdh vs (k0+j)=A at *
  obtain ⟨y,B,hyB⟩:∃ y B,vs.drop A.length=y::B:=by
   cases h:vs.drop A.length with
   | nil=>have:=congrArg List.length h; simp at this; omega
   | cons y B=>exact ⟨y,B,rfl⟩
  have optw:(A++vs.drop A.length)[k0+j]?=some w:=by
   rw [List.getElem?_append_right (by omega),List.getElem?_drop,show A.length+(k0+j - A.length)=k0+j by omega]; exact hw
  have optu:(A++vs.drop A.length)[k0+j - 1]?=some u:=by
   rw [List.getElem?_append_right (by omega),List.getElem?_drop,show A.length+(k0+j - 1 - A.length)=k0+j - 1 by omega]; exact hu
  have atw:=zlD optw
  have atu:=zlD optu
  have hlen:=zde (A++vs.drop A.length)
  have hRl:(A++vs.drop A.length).length=vs.length:=by rw [List.length_append,List.length_drop]; omega
  rw [show (k0+j) * 3=k0 * 3+j * 3 by omega] at atw
  rw [show (k0+j - 1) * 3=k0 * 3+(j - 1) * 3 by omega] at atu
  have hle1:k0 * 3+j * 3+3≤(zcI (A++vs.drop A.length)).length:=by omega
  have hle2:k0 * 3+(j - 1) * 3+3≤(zcI (A++vs.drop A.length)).length:=by omega
  have hle3:A.length * 3+3≤(zcI (A++vs.drop A.length)).length:=by omega
  have hrow:=ze5 hid (A++vs.drop A.length)
  have ix1:gIx (vs.length - k0) (.int .i64 (j:Int))=some j:=by simp only [gIx]; rw [if_pos (by omega)]; simp
  have ix2:gIx (vs.length - k0) (.int .i64 ((j:Int) - 1))=some (j - 1):=by simp only [gIx]; rw [if_pos (by omega)]; congr 1; omega
  have ix3:gIx vs.length (.int .i64 (A.length:Int))=some A.length:=by simp only [gIx]; rw [if_pos (by omega)]; simp
  have w0:IntKind.i64.wrap ((j:Int) - 1)=(j:Int) - 1:=zan (by omega) (by omega)
  have w1:IntKind.i64.wrap ((j:Int)+1)=(j:Int)+1:=zan (by omega) (by omega)
  have w2:IntKind.i64.wrap ((A.length:Int)+1)=(A.length:Int)+1:=zan (by omega) (by omega)
  have hbo':(zcz H0 id (A++vs.drop A.length)).bo≤id:=hbo
  have lv:=zg5 w.k w.n w.t u.k u.n u.t
  have hwu:decide (w.k=u.k∧w.n=u.n∧w.t=u.t)=decide (w=u):=by
   congr 1; apply propext
   constructor
   ·rintro ⟨a,b,c⟩; cases w; cases u; simp_all
   ·rintro rfl; exact ⟨rfl,rfl,rfl⟩
  rw [hwu] at lv
  simp only [vlC] at atw atu
  by_cases hc:w=u
  ·rw [decide_eq_true hc] at lv
   simp [zjZ,q0,q3,q4,q5,hlt',ix1,ix2,w0,w1,hrow,atw,atu,hle1,hle2,lv]
   refine ⟨vs.length - (k0+(j+1)),by omega,j+1,rfl,by omega,by omega, ?_⟩
   rw [← Nat.add_assoc,hst,if_pos hc]
   exact ⟨by omega,rfl,by simp,by simp⟩
  ·rw [decide_eq_false hc] at lv
   have hst2:(⟨(zcz H0 id (A++vs.drop A.length)).objs.set id (.row 34 ((zcI (A++vs.drop A.length)).take (A.length * 3)++(.int .i64 w.k::.int .i64 w.n::.str (mkB w.t)::(zcI (A++vs.drop A.length)).drop (A.length * 3+3)))),(zcz H0 id (A++vs.drop A.length)).toks,(zcz H0 id (A++vs.drop A.length)).bo,(zcz H0 id (A++vs.drop A.length)).bt⟩:GH)=zcz H0 id (A++w::B):=by
    have:=zy7 A y w B
    simp only [vlC,List.cons_append,List.nil_append] at this
    rw [hyB,this]
    simp [zcz]
   simp [zjZ,q0,q3,q4,q5,hlt',ix1,ix2,ix3,w0,w1,w2,hrow,atw,atu,hle1,hle2,hle3,lv,zae,hbo',hst2]
   have hB:B=vs.drop (A.length+1):=by
    have:=congrArg (List.drop 1) hyB
    simpa [List.drop_drop] using this.symm
   refine ⟨vs.length - (k0+(j+1)),by omega,j+1,rfl,by omega,by omega, ?_⟩
   rw [← Nat.add_assoc,hst,if_neg hc]
   exact ⟨by rw [List.length_append,List.length_singleton]; omega,by rw [hB]; simp,by simp,by simp⟩
 ·have hlt':¬ (j:Int)<((vs.length - k0:Nat):Int):=by omega
  have hje:k0+j=vs.length:=by omega
  rw [hje] at hA q3
  simp [zjZ,q4,q5,hlt']
  rw [hje]
  exact fun hf'=>he _ _ (by simp [q3]) (by omega) hf'
theorem zwm {k n:Nat} (hk:k<n) (id:Nat) (call:Nat→List GV→GH→Option (GV × GH)) (l:List GV) (g:Nat) (H':GH):zas call (.slsl 3 true false false) [.hsl id 0 n 3 false,.int .i64 (k:Int)] ⟨l,g⟩ H'=some ⟨.hsl id (k * 3) (n - k) 3 false,none,H',g⟩:=by
 have b1:zay n true false false [.int .i64 (k:Int)]=some (k,n,none):=by simp [zay,zbH]; omega
 show (Option.map _ (if (3:Nat)=3 then (zay n true false false [.int .i64 (k:Int)]).map _ else none))=_
 rw [b1]
 simp [hk]
theorem zBb {k n:Nat} (hk:k≤n) (h0:0<k) (id:Nat) (call:Nat→List GV→GH→Option (GV × GH)) (l:List GV) (g:Nat) (H':GH):zas call (.slsl 3 false true false) [.hsl id 0 n 3 false,.int .i64 (k:Int)] ⟨l,g⟩ H'=some ⟨.hsl id 0 k 3 false,none,H',g⟩:=by
 have b2:zay n false true false [.int .i64 (k:Int)]=some (0,k,none):=by simp [zay,zbH]; omega
 show (Option.map _ (if (3:Nat)=3 then (zay n false true false [.int .i64 (k:Int)]).map _ else none))=_
 rw [b2]
 simp [h0]
theorem zpP {vs:List Vl} (h:vs≠[]):∀ n,0<(zdh vs (n+1)).length
 | 0=>by
  cases vs with
  | nil=>exact absurd rfl h
  | cons v vs=>simp [zdh]
 | n+1=>by
  have:=zpP h n
  rw [zdh]
  split
  ·split
   ·exact this
   ·rw [List.length_append]; omega
  ·exact this
theorem zBc (vs:List Vl) (hn:vs.length≤1000000) (h1:1≤vs.length) (id:Nat) (l0:List GV) (g0:Nat) (H0:GH) (hid:id<H0.objs.length) (hbo:H0.bo≤id) (K:GExit × St→Prop)
 (h0:zad l0 0=.hsl id 0 vs.length 3 false) (h3:zad l0 3=.int .i64 1)
 (he:∀ l g,zdh vs vs.length=vs→zad l 0=.hsl id 0 vs.length 3 false→K (.exit 0,⟨⟨l,g⟩,zcz H0 id vs⟩))
 (hr:∀ l g Z,zad l 2=.hsl id 0 (zdh vs vs.length).length 3 false→K (.ret,⟨⟨l,g⟩,zcz H0 id (zdh vs vs.length++Z)⟩)) :
 optW (erun T (.loop zif) ⟨⟨l0,g0⟩,zcz H0 id vs⟩) K:=by
 have hvne:vs≠[]:=fun e=>by rw [e] at h1; simp at h1
 refine zcG (l0:=l0) (fun m l g H=>∃ k:Nat,m=vs.length - k∧1≤k∧k≤vs.length∧zdh vs k=vs.take k∧H=zcz H0 id vs∧zad l 3=.int .i64 k) ?_ (vs.length - 1) l0 g0 _ ⟨1,rfl,Nat.le_refl _,h1,by cases vs with | nil=>exact absurd rfl hvne | cons v vs=>simp [zdh],rfl,h3⟩ (.refl _ _ _)
 intro m l g H ⟨k,hm,hk1,hk,hA,hH,q3⟩ hf
 subst hH
 have q0:=hf.get 0 rfl h0 (by simp [GV.boxy])
 by_cases hlt:k<vs.length
 ·have hlt':(k:Int)<(vs.length:Int):=by omega
  obtain ⟨w,hw⟩:∃ w,vs[k]?=some w:=⟨_,List.getElem?_eq_getElem hlt⟩
  obtain ⟨u,hu⟩:∃ u,vs[k - 1]?=some u:=⟨_,List.getElem?_eq_getElem (by omega)⟩
  have hst:zdh vs (k+1)=if w=u then zdh vs k else zdh vs k++[w]:=by
   have:=znh (vs:=vs) (n:=k - 1) (v:=w) (w:=u) (by rw [show k - 1+1=k by omega]; exact hw) hu
   rw [show k - 1+2=k+1 by omega,show k - 1+1=k by omega] at this
   exact this
  have atw:=zlD hw
  have atu:=zlD hu
  have hlen:=zde vs
  have hle1:k * 3+3≤(zcI vs).length:=by omega
  have hle2:(k - 1) * 3+3≤(zcI vs).length:=by omega
  have hrow:=ze5 hid vs
  have ix1:gIx vs.length (.int .i64 (k:Int))=some k:=by simp only [gIx]; rw [if_pos (by omega)]; simp
  have ix2:gIx vs.length (.int .i64 ((k:Int) - 1))=some (k - 1):=by simp only [gIx]; rw [if_pos (by omega)]; congr 1; omega
  have w0:IntKind.i64.wrap ((k:Int) - 1)=(k:Int) - 1:=zan (by omega) (by omega)
  have w1:IntKind.i64.wrap ((k:Int)+1)=(k:Int)+1:=zan (by omega) (by omega)
  have lv:=zg5 w.k w.n w.t u.k u.n u.t
  have hwu:decide (w.k=u.k∧w.n=u.n∧w.t=u.t)=decide (w=u):=by
   congr 1; apply propext
   constructor
   ·rintro ⟨a,b,c⟩; cases w; cases u; simp_all
   ·rintro rfl; exact ⟨rfl,rfl,rfl⟩
  rw [hwu] at lv
  simp only [vlC] at atw atu
  by_cases hc:w=u
  ·rw [decide_eq_true hc] at lv
   rw [if_pos hc,hA] at hst
   have s1:=fun l g H'=>zwm hlt id (ecall T) l g H'
   simp [zif,q0,q3,hlt',ix1,ix2,w0,hrow,atw,atu,hle1,hle2,lv,s1]
   rw [zao,zai,zao,zai]
   refine zEg vs hn id k hk1 hlt hst _ _ H0 hid hbo _ (by simp [q0]) (by simp) (by simp [q3]) (by simp) ?_
   intro l2 g2 k3 hcl hf2
   have k0:=hf2.get 0 rfl (v:=.hsl id 0 vs.length 3 false) (by simp [q0]) (by simp [GV.boxy])
   have hpos:0<(zdh vs vs.length).length:=by
    obtain ⟨n,hn⟩:∃ n,vs.length=n+1:=⟨vs.length - 1,by omega⟩
    rw [hn]; exact zpP hvne n
   generalize zdh vs vs.length=A at *
   have s2:=fun l g H'=>zwm hcl id (ecall T) l g H'
   have s3:=fun l g H'=>zBb (Nat.le_of_lt hcl) hpos id (ecall T) l g H'
   have hrow':=ze5 hid (A++vs.drop A.length)
   have hlen':=zde (A++vs.drop A.length)
   have hRl:(A++vs.drop A.length).length=vs.length:=by rw [List.length_append,List.length_drop]; omega
   have hrest:vs.length - A.length > 0:=by omega
   obtain ⟨Z,hZ⟩:∃ Z:List Vl,Z=List.replicate (vs.length - A.length) ⟨0,0,[]⟩:=⟨_,rfl⟩
   have hcz:zfG (zcz H0 id (A++vs.drop A.length)) 3 (.agg [.int .i64 0,.int .i64 0,.str ⟨#[]⟩]) [.hsl id (A.length * 3) (vs.length - A.length) 3 false]=some (.tup [],zcz H0 id (A++Z)):=by
    simp only [zfG,hrow']
    rw [if_pos (by refine ⟨trivial,hbo,hrest, ?_,rfl,rfl⟩; rw [hlen',hRl]; omega)]
    have e1:(zcI (A++vs.drop A.length)).take (A.length * 3)=zcI A:=by
     rw [zcJ,← zde A,List.take_left']; rfl
    have e2:(zcI (A++vs.drop A.length)).drop (A.length * 3+(vs.length - A.length) * 3)=[]:=List.drop_eq_nil_iff.2 (by rw [hlen',hRl]; omega)
    have e3:(List.replicate (vs.length - A.length) (GV.agg [.int .i64 0,.int .i64 0,.str ⟨#[]⟩])).flatMap GV.cells=zcI Z:=by
     rw [hZ,zcI]
     generalize vs.length - A.length=n
     induction n with
     | zero=>rfl
     | succ n ih=>rw [List.replicate_succ,List.replicate_succ,List.flatMap_cons,List.flatMap_cons,ih]; rfl
    rw [e1,e2,e3,List.append_nil,← zcJ]
    simp [zcz]
   simp [k0,k3,s2,s3,hcz]
   exact fun _=>hr _ _ Z (by simp)
  ·rw [decide_eq_false hc] at lv
   rw [if_neg hc,hA] at hst
   simp [zif,q0,q3,hlt',ix1,ix2,w0,w1,hrow,atw,atu,hle1,hle2,lv]
   refine ⟨vs.length - (k+1),by omega,k+1,rfl,by omega,by omega, ?_,by simp⟩
   rw [hst,List.take_add_one,hw]; rfl
 ·have hlt':¬ (k:Int)<(vs.length:Int):=by omega
  have hke:k=vs.length:=by omega
  rw [hke,List.take_length] at hA
  simp [zif,q0,q3,hlt']
  exact fun hf'=>he _ _ hA (by simp [q0])
theorem zr2 (vs:List Vl) (hn:vs.length≤1000000) (h1:1≤vs.length) (id:Nat) (H:GH) (hrow:H.objs[id]?=some (.row 34 (zcI vs))) (hbo:H.bo≤id) :
 ∃ Z,ecall T zqd [.hsl id 0 vs.length 3 false] H=some (.hsl id 0 (zdh vs vs.length).length 3 false,zcz H id (zdh vs vs.length++Z)):=by
 have hid:=(List.getElem?_eq_some_iff.1 hrow).1
 have hsame:=zr1 hrow
 have hvne:vs≠[]:=fun e=>by rw [e] at h1; simp at h1
 have key:optW (ecall T zqd [.hsl id 0 vs.length 3 false] H) fun r=>∃ Z,r=(.hsl id 0 (zdh vs vs.length).length 3 false,zcz H id (zdh vs vs.length++Z)):=by
  rw [zag zCW rfl (by simp [znR]),zab]
  simp only [znR,zzZ]
  by_cases h2:(vs.length:Int)<2
  ·have h2':vs.length<2:=by omega
   have h3:vs.length=1:=by omega
   have hc:zdh vs vs.length=vs:=by
    cases vs with
    | nil=>exact absurd rfl hvne
    | cons v vs =>
     have:vs=[]:=List.length_eq_zero_iff.1 (by simpa using h3)
     subst this; rfl
   simp [h2,h2']
   exact ⟨by rw [hc],⟨[],by rw [hc,List.append_nil,hsame]⟩⟩
  ·have h2':¬ vs.length<2:=by omega
   simp [h2,h2']
   rw [zao,zai]
   have hlo:∀ (l0:List GV) (g0:Nat) (K:GExit × St→Prop),optW (erun T (.loop zif) ⟨⟨l0,g0⟩,zcz H id vs⟩) K→optW (erun T (.loop zif) ⟨⟨l0,g0⟩,H⟩) K:=fun l0 g0 K h=>by rwa [hsame] at h
   refine hlo _ _ _ (zBc vs hn h1 id _ _ H hid hbo _ (by simp) (by simp) ?_ ?_)
   ·intro l g hc k0
    rw [hc]
    simp [k0]
    exact ⟨[],by rw [List.append_nil]⟩
   ·intro l g Z k2
    simp [k2]
    exact ⟨Z,rfl⟩
 obtain ⟨r,h,Z,rfl⟩:=key
 exact ⟨Z,h⟩
structure Grow (H H':GH):Prop where
 bo:H'.bo=H.bo
 bt:H'.bt=H.bt
 toks:H'.toks=H.toks
 len:H.objs.length≤H'.objs.length
 keep:∀ (i:Nat) (o:GObj),i<H.objs.length→H.objs[i]?=some o→H'.objs[i]?=some o
inductive VRow (H0 H:GH):GV→List Vl→Prop
 | nil (h:Grow H0 H):VRow H0 H .nilsl []
 | row (id:Nat) (vs:List Vl) (h:Grow H0 H) (hne:vs≠[]) (hid:H0.objs.length≤id) (hr:H.objs[id]?=some (.row 34 (zcI vs))):VRow H0 H (.hsl id 0 vs.length 3 false) vs
theorem VRow.ok {H0 H:GH} {s:GV} {vs:List Vl} (h:VRow H0 H s vs):s.ok=true∧(∀ t,zbJ t s=s)∧s.boxy=false:=by
 cases h <;> exact ⟨rfl,fun _=>rfl,rfl⟩
theorem VRow.grow {H0 H:GH} {s:GV} {vs:List Vl} (h:VRow H0 H s vs):Grow H0 H:=by cases h <;> assumption
theorem zwn {H0 H:GH} {s:GV} {vs:List Vl} (h:VRow H0 H s vs) (hbo:H0.bo≤H0.objs.length) (hl:vs.length≤1000) (v:Vl) :
 ∃ s' H',zbh H 34 3 32 s (.sl 3 [vlG v] .exact)=some (s',H')∧VRow H0 H' s' (vs++[v]):=by
 have hg:zbB 3 (.sl 3 [vlG v] .exact)=some [vlG v]:=by simp [zbB]
 cases h with
 | nil h =>
  refine ⟨.hsl H.objs.length 0 1 3 false,H.newObj (.row 34 (vlC v)), ?_, ?_⟩
  ·unfold zbh
   rw [hg]
   simp [zdu,maxLen]
  ·have:=VRow.row (H0:=H0) (H:=H.newObj (.row 34 (vlC v))) H.objs.length [v] ⟨h.bo,h.bt,h.toks,by show _≤(H.objs++_).length; rw [List.length_append]; have:=h.len; omega,fun i o hi ho=>by
    show (H.objs++_)[i]?=some o
    rw [List.getElem?_append_left (by have:=h.len; omega)]; exact h.keep i o hi ho⟩ (by simp) h.len (by show (H.objs++_)[H.objs.length]?=_; simp [zcI,vlC])
   exact this
 | row id _ h hne hid hr =>
  have hlen:=zde vs
  have hb:H.bo≤id:=by rw [h.bo]; omega
  have hidl:=(List.getElem?_eq_some_iff.1 hr).1
  have ga:=zec (ty:=34) (sz:=3) (bytes:=32) (ag:=false) (x:=.sl 3 [vlG v] .exact) hr hg hlen hb (by simp only [List.length_singleton,zdu]; omega) (by simp only [List.length_singleton,maxLen]; omega) (by simp)
  have e1:zcI vs++[vlG v].flatMap GV.cells=zcI (vs++[v]):=by
   rw [zcJ]; simp [zcI,vlG]
  have e2:vs.length+[vlG v].length=(vs++[v]).length:=by simp
  rw [e1,e2] at ga
  have ga':zbh H 34 3 32 (.hsl id 0 vs.length 3 false) (.sl 3 [vlG v] .exact)=some (.hsl H.objs.length 0 (vs++[v]).length 3 false,{ H with objs:=H.objs.set id .dead++[.row 34 (zcI (vs++[v]))] }):=by
   unfold zbh
   rw [hg]
   simp only [Option.bind_some]
   exact ga
  refine ⟨_,_,ga',VRow.row _ _ ⟨h.bo,h.bt,h.toks, ?_,fun i o hi ho=>?_⟩ (by simp) ?_ ?_⟩
  ·show _≤(H.objs.set id .dead++_).length
   rw [List.length_append,List.length_set]; have:=h.len; omega
  ·show (H.objs.set id .dead++_)[i]?=some o
   have:=h.len
   rw [List.getElem?_append_left (by rw [List.length_set]; omega),List.getElem?_set_ne (by omega)]
   exact h.keep i o hi ho
  ·exact h.len
  ·show (H.objs.set id .dead++_)[H.objs.length]?=_
   rw [List.getElem?_append_right (by rw [List.length_set]; exact Nat.le_refl _),List.length_set,Nat.sub_self]; rfl
def ze6 (e:Ent):Vl:=⟨e.k,e.n,e.t⟩
theorem zoX (L:List Ent) (hL:L.length≤1000) (v1:GV) (hv:Elems 5 v1 (L.map zb8)) (l0:List GV) (g0:Nat) (H0:GH) (hbo:H0.bo≤H0.objs.length) (K:GExit × St→Prop)
 (h10:zad l0 10=v1) (h11:zad l0 11=.int .i64 L.length) (h12:zad l0 12=.int .i64 0) (h5:zad l0 5=.nilsl)
 (he:∀ l g H s,zad l 5=s→VRow H0 H s (L.map ze6)→Fr ztF l0 l→K (.exit 0,⟨⟨l,g⟩,H⟩)) :
 optW (erun T (.loop ztF) ⟨⟨l0,g0⟩,H0⟩) K:=by
 refine zau (T:=T) (n:=L.length) (A:=GV) (fun _ s=>[(5,s)]) (fun i s _ H'=>VRow H0 H' s ((L.take i).map ze6)) (c:=13) (b:=0) (I:=12) (N:=11) (d:=21) rfl (by omega) (by decide) ⟨rfl,rfl⟩ (by simp) ?_ ?_ 0 .nilsl _ _ H0 (by omega) (.nil ⟨rfl,rfl,rfl,Nat.le_refl _,fun _ _ _ h=>h⟩) (by simp [h5]) (.refl _ _ _) h12 h11
 ·intro i s l g H' hi hG hh hf hI
  have h10':=hf.get 10 rfl h10 (by simp [hv.boxy])
  obtain ⟨lt,ix,opt,get,⟨t,sv⟩,wr_,mem⟩:=zbX (e:=zb8) hv hi (by omega)
  generalize L[i]'hi=e at opt get mem
  have ht:(L.take (i+1)).map ze6=(L.take i).map ze6++[ze6 e]:=by rw [List.take_add_one,opt]; simp
  rw [ht]
  obtain ⟨s',H2,a1,G1⟩:=zwn hG hbo (by rw [List.length_map,List.length_take]; omega) (ze6 e)
  obtain ⟨o1,o2,o3⟩:=hG.ok
  obtain ⟨p1,p2,p3⟩:=G1.ok
  simp only [zah,zaj,and_true] at hh
  rw [sv] at h10'
  simp only [vlG,vlC,ze6] at a1
  simp [h10',hI,hh,ix,opt,get,zdg,zae,zak,zaK,o1,o2,a1,p1,zeZ]
  exact fun _=>by simpa using G1
 ·intro s l g H' hG hh hf
  simp only [zah,zaj,and_true] at hh
  rw [List.take_length] at hG
  exact he l g H' s hh hG hf
theorem zwo {H:GH} {q:Nat} {vs:List Vl} (hne:vs≠[]) (hle:vs.length≤1000000) (hq:H.objs[q]?=some (.row 34 (zcI vs))) (hbq:H.bo≤q) :
 ecall T zxc [.hsl q 0 vs.length 3 false,.func 141 [] []] H=some (.tup [],zcz H q (zba (ltC zet) vs)):=by
 refine zns zCV (by simp) ?_ ⟨rfl,rfl⟩
 have hpos:0<vs.length:=List.length_pos_iff.2 hne
 have hone:(zcI vs).all GV.one=true:=by
  rw [List.all_eq_true]
  intro c hc
  obtain ⟨p,_,hp⟩:=List.mem_flatMap.1 hc
  simp only [vlC,List.mem_cons,List.not_mem_nil,or_false] at hp
  rcases hp with rfl | rfl | rfl <;> rfl
 have hrow:zoO 3 vs.length (zcI vs)=vs.map fun p=>vlC p:=zgM (en:=vlC) (fun _=>rfl) vs
 have hdec:zwA deV (zoO 3 vs.length (zcI vs))=some vs:=by
  rw [hrow]
  exact zh5 (de:=deV) (en:=vlC) vs (fun b _=>by
   show (some ⟨b.k,b.n,(mkB b.t).data.toList⟩:Option Vl)=some b
   simp)
 simp only [zk8,zhH,hq]
 rw [if_pos ⟨trivial,trivial,hbq,hpos,by decide,hle,zde vs,hone⟩,hdec]
 simp [zcz,zcI]
theorem zni {vs:List Vl} (hs:vs.Pairwise fun a b=>ltC zet b a=false):∀ n≤vs.length,(zdh vs n).Pairwise (fun a b=>zet a b<0)∧∀ x,x∈zdh vs n↔x∈vs.take n
 | 0,_=>⟨List.Pairwise.nil,fun x=>by simp [zdh]⟩
 | n+1,hn=>by
  obtain ⟨h1,h2⟩:=zni hs n (by omega)
  have hv:vs[n]?=some vs[n]:=List.getElem?_eq_getElem (by omega)
  have le:∀ i j (hi:i<vs.length) (hj:j<vs.length),i≤j→zet vs[i] vs[j]≤0:=fun i j hi hj hij=>by
   rcases Nat.lt_or_ge i j with h | h
   ·have:=(List.pairwise_iff_getElem.1 hs) i j hi hj h
    have h3:¬ zet vs[j] vs[i]<0:=of_decide_eq_false this
    have:=ordV_ok.swap vs[i] vs[j]
    omega
   ·have:i=j:=by omega
    subst this
    have:=ordV_ok.self vs[i]
    omega
  have ht:vs.take (n+1)=vs.take n++[vs[n]]:=by rw [List.take_add_one,hv]; rfl
  rw [zdh,hv]
  simp only
  split
  ·rename_i hc
   obtain ⟨hn0,hp⟩:=hc
   refine ⟨h1,fun x=>?_⟩
   rw [h2,ht,List.mem_append,List.mem_singleton]
   constructor
   ·exact fun h=>.inl h
   ·rintro (h | h)
    ·exact h
    ·rw [h]
     have h4:(vs.take n)[n - 1]?=some vs[n]:=by rw [List.getElem?_take_of_lt (by omega)]; exact hp
     exact List.mem_of_getElem? h4
  ·rename_i hc
   refine ⟨?_,fun x=>?_⟩
   ·rw [List.pairwise_append]
    refine ⟨h1,List.pairwise_singleton _ _,fun x hx y hy=>?_⟩
    rw [List.mem_singleton] at hy
    rw [hy]
    obtain ⟨j,hj,hje⟩:=List.mem_iff_getElem.1 ((h2 x).1 hx)
    rw [List.length_take] at hj
    have hjl:j<vs.length:=by omega
    have hxe:x=vs[j]:=by rw [← hje]; simp
    have h3:=le j n hjl (by omega) (by omega)
    rw [hxe]
    rcases Int.lt_or_eq_of_le h3 with h4 | h4
    ·exact h4
    ·exfalso
     have e1:=ordV_ok.zero _ _ h4
     have h5:=le j (n - 1) hjl (by omega) (by omega)
     have h6:=le (n - 1) n (by omega) (by omega) (by omega)
     rw [e1] at h5
     have h7:=ordV_ok.swap vs[n - 1] vs[n]
     have e2:=ordV_ok.zero vs[n - 1] vs[n] (by omega)
     exact hc ⟨by omega,by rw [List.getElem?_eq_getElem (by omega),e2]⟩
   ·rw [List.mem_append,h2,ht,List.mem_append]
theorem zy8 (vs:List Vl):(zcI vs).all GV.one=true:=by
 rw [List.all_eq_true]
 intro c hc
 obtain ⟨p,_,hp⟩:=List.mem_flatMap.1 hc
 simp only [vlC,List.mem_cons,List.not_mem_nil,or_false] at hp
 rcases hp with rfl | rfl | rfl <;> rfl
theorem zjf (Z:List GV):∀ A:List Vl,zbc 3 A.length (zcI A++Z)=A.map vlG
 | []=>rfl
 | v::A=>by
  rw [ze4,List.length_cons,zbc,List.append_assoc]
  have h1:(vlC v++(zcI A++Z)).take 3=vlC v:=by simp [vlC]
  have h2:(vlC v++(zcI A++Z)).drop 3=zcI A++Z:=by simp [vlC]
  rw [h1,h2,zjf Z A]
  rfl
theorem zoY {H:GH} {id:Nat} {A Z:List Vl} (h:H.objs[id]?=some (.row 34 (zcI (A++Z)))) (hbo:H.bo≤id):zaW H [.hsl id 0 A.length 3 false]=some (.sl 3 (A.map vlG) .imm,{ H with objs:=H.objs.set id .dead }):=by
 simp only [zaW,h]
 have hl:=zde (A++Z)
 rw [List.length_append] at hl
 have hone:(((zcI (A++Z)).drop 0).take (A.length * 3)).all GV.one=true:=by
  rw [List.all_eq_true]
  intro c hc
  exact List.all_eq_true.1 (zy8 (A++Z)) c (List.mem_of_mem_drop (List.mem_of_mem_take hc))
 rw [if_pos ⟨hbo,by omega,by omega,hone⟩]
 rw [List.drop_zero,zcJ,zjf]
theorem zwp (a b n:Nat) (A:List Vl):zaM a b (n+3) (.sl 3 (A.map vlG) .imm)=some (.sl 3 (A.map vlG) .imm):=by
 have h:(A.map vlG).mapM (zaM a b (n+2))=some (A.map vlG):=zdf a b (n+2) _ fun x hx=>by
  obtain ⟨v,_,rfl⟩:=List.mem_map.1 hx
  rfl
 show (List.mapM (zaM a b (n+2)) (A.map vlG)).map (fun xs=>GV.sl 3 xs .imm)=_
 rw [h]; rfl
def zcj (S:List Stp) (x:El):List Vl:=zdh (zba (ltC zet) ((zce S x).map ze6)) (zce S x).length
theorem zy9 (S:List Stp) (x:El):(zcj S x).Pairwise (fun a b=>zet a b<0)∧(∀ y,y∈zcj S x↔y∈(zce S x).map ze6)∧(zcj S x).length≤(zce S x).length:=by
 have hs:=zc2 (lt:=ltC zet) (ordV_ok.swo fun p:Vl=>p) ((zce S x).map ze6)
 have hl:(zba (ltC zet) ((zce S x).map ze6)).length=(zce S x).length:=by rw [(zaZ _).length_eq,List.length_map]
 obtain ⟨h1,h2⟩:=zni hs (zce S x).length (by omega)
 refine ⟨h1,fun y=>?_,zpO _ _⟩
 rw [zcj,h2,← hl,List.take_length]
 exact (zaZ _).mem_iff
theorem zwq {H:GH} {s m:Nat} {S:List Stp} (h:zxF H s m S) (x:El) (hk:zaC true kLs (elG x)=true) (hL:(zce S x).length≤1000) :
 ∃ v,ecall T zsE [.ptr s 0,.agg (elC x)] H=some (v,H)∧Elems 3 v ((zcj S x).map vlG):=by
 have ho:zxF H.over s m S:=h
 have hbo0:H.over.bo≤H.over.objs.length:=Nat.le_refl _
 obtain ⟨v1,hen,hE⟩:=zqF ho x hk (by omega) hbo0
 have gm:=zck (zce S x) H.over
 have hvs:zcj S x=zdh (zba (ltC zet) ((zce S x).map ze6)) (zce S x).length:=rfl
 rw [hvs]
 generalize zce S x=L at hL hen hE gm
 generalize hH1:zb9 L H.over=H1 at hen gm
 have hbo1:H1.bo≤H1.objs.length:=by rw [gm.bo]; exact Nat.le_trans hbo0 gm.len
 have el:=hE.len
 have eu:=zac hE
 have ek:=hE.ok
 simp only [List.length_map] at el
 have hlx:(elC x).length=5:=rfl
 have htx:List.take 5 (elC x)=elC x:=rfl
 have key:optW (ecall T zsE [.ptr s 0,.agg (elC x)] H) fun r=>∃ v,r=(v,H)∧Elems 3 v ((zdh (zba (ltC zet) (L.map ze6)) L.length).map vlG):=by
  rw [zbd zFH rfl (by simp [ztG]),zab]
  simp only [ztG,zCy]
  simp [hlx,htx,hen,el,eu,ek,zbk,zdy]
  rw [zao,zai]
  refine zoX L hL v1 hE _ _ H1 hbo1 _ (by simp [eu]) (by simp) (by simp) (by simp) ?_
  intro l g H2 s2 k5 hV hf
  cases hs:L with
  | nil =>
   rw [hs] at hV
   cases hV with
   | nil hG =>
    have hsrt:ecall T zxc [.nilsl,.func 141 [] []] H2=some (.tup [],H2):=zns zCV (by simp) rfl ⟨rfl,rfl⟩
    have hcmp:ecall T zqd [.nilsl] H2=some (.nilsl,H2):=by
     apply optW.eq
     rw [zag zCW rfl (by simp [znR]),zab]
     simp [znR,zzZ]
    simp [k5,hsrt,hcmp,zbk,zdy]
    exact .nil
   | row _ _ _ hne=>exact absurd rfl hne
  | cons e0 L0 =>
   have hLne:L≠[]:=by rw [hs]; simp
   have hvs:L.map ze6≠[]:=by rw [hs]; simp
   have hvl:(L.map ze6).length=L.length:=by simp
   rw [← hs]
   have hLp:0<L.length:=List.length_pos_iff.2 hLne
   generalize hvd:L.map ze6=vs at hV hvs hvl
   cases hV with
   | nil=>exact absurd rfl hvs
   | row id _ hG hne hid hr =>
    have hb2:H2.bo≤id:=by rw [hG.bo]; omega
    have hsrt:=zwo hvs (by omega) hr hb2
    have hsl:(zba (ltC zet) vs).length=vs.length:=(zaZ vs).length_eq
    have hidl:=(List.getElem?_eq_some_iff.1 hr).1
    obtain ⟨Z,hcmp⟩:=zr2 (zba (ltC zet) vs) (by omega) (by omega) id (zcz H2 id (zba (ltC zet) vs)) (ze5 hidl _) hb2
    rw [hsl] at hcmp
    have hfz:=zoY (H:=zcz (zcz H2 id (zba (ltC zet) vs)) id (zdh (zba (ltC zet) vs) vs.length++Z)) (ze5 (by show id<(H2.objs.set id _).length; rw [List.length_set]; exact hidl) _) hb2
    simp [k5,hsrt,hcmp,zbk,hfz,zwp]
    rw [hvl]; exact .sl _ _
 obtain ⟨r,h,v,rfl,h2⟩:=key
 exact ⟨v,h,h2⟩
def zcK (a:Evt):Vl:=⟨a.vk,a.vn,a.vt⟩
theorem znj {e:Evt} (hp:e.past.length=16):List.take 3 (List.drop 24 (evC e))=vlC (zcK e):=zo6 hp
theorem znk (x y:Vl):zaH [.int .i64,.int .i64,.str] (vlC x) (vlC y)=some (decide (x=y)):=by
 have:decide (x.k=y.k∧x.n=y.n∧x.t=y.t)=decide (x=y):=by
  congr 1; apply propext
  constructor
  ·rintro ⟨a,b,c⟩; cases x; cases y; simp_all
  ·rintro rfl; exact ⟨rfl,rfl,rfl⟩
 rw [← this]
 exact zg5 _ _ _ _ _ _
end Go.Proofs.YtchjbidfmhmmhaaGreatDoor
