/- Own work: the zaG machine and what it shows, part Vs. -/
import Derived.Test.YtchjbidfmhmmhaaGreatDoorCo
import Derived.Test.YtchjbidfmhmmhaaGreatDoorLv
set_option linter.all false
namespace Go.Proofs.YtchjbidfmhmmhaaGreatDoor
open Go.Sh
set_option maxHeartbeats 4000000
set_option maxRecDepth 100000
deriving instance DecidableEq for Vl
def zcs (vs:List Vl):List GV:=vs.flatMap vlC
abbrev vlG (v:Vl):GV:=.agg (vlC v)
theorem zeu (v:Vl) (vs:List Vl):zcs (v::vs)=vlC v++zcs vs:=by simp [zcs]
theorem zct (A B:List Vl):zcs (A++B)=zcs A++zcs B:=by simp [zcs]
theorem zcV:∀ vs:List Vl,(zcs vs).length=vs.length * 3
 | []=>rfl
 | v::vs=>by
  rw [zeu,List.length_append,zcV vs,List.length_cons]
  show 3+_=_; omega
theorem zkw {L:List Vl} {i:Nat} {e:Vl} (h:L[i]?=some e):((zcs L).drop (i * 3)).take 3=vlC e:=by
 induction L generalizing i with
 | nil=>simp at h
 | cons y L ih =>
  rw [zeu]
  cases i with
  | zero =>
   simp at h; subst h
   simp [vlC]
  | succ i =>
   simp only [List.getElem?_cons_succ] at h
   have:(vlC y++zcs L).drop ((i+1) * 3)=(zcs L).drop (i * 3):=by
    rw [show (i+1) * 3=3+i * 3 by omega,← List.drop_drop]
    simp [vlC]
   rw [this]; exact ih h
theorem zwZ (A:List Vl) (y e:Vl) (B:List Vl):(zcs (A++y::B)).take (A.length * 3)++(vlC e++(zcs (A++y::B)).drop (A.length * 3+3))=zcs (A++e::B):=by
 have hA:=zcV A
 rw [zct,zct,zeu,zeu]
 have e1:(zcs A++(vlC y++zcs B)).take (A.length * 3)=zcs A:=by rw [← hA,List.take_left']; rfl
 have e2:(zcs A++(vlC y++zcs B)).drop (A.length * 3+3)=zcs B:=by
  rw [← hA,List.drop_append]
  simp [vlC]
 rw [e1,e2]
def zck (H:GH) (id:Nat) (R:List Vl):GH:={ H with objs:=H.objs.set id (.row 34 (zcs R)) }
theorem zev {H:GH} {id:Nat} (h:id<H.objs.length) (R:List Vl):(zck H id R).objs[id]?=some (.row 34 (zcs R)):=by simp [zck,h]
theorem zqw {H:GH} {id:Nat} {R:List Vl} (h:H.objs[id]?=some (.row 34 (zcs R))):zck H id R=H:=by
 have hid:=(List.getElem?_eq_some_iff.1 h).1
 have:H.objs.set id (.row 34 (zcs R))=H.objs:=by
  apply List.ext_getElem?
  intro k
  by_cases hk:id=k
  ·subst hk; rw [List.getElem?_set_self hid,h]
  ·rw [List.getElem?_set_ne hk]
 simp [zck,this]
def zcZ (vs:List Vl):Nat→List Vl
 | 0=>[]
 | n+1=>match vs[n]? with
  | some v=>if n≠0∧vs[n - 1]?=some v then zcZ vs n else zcZ vs n++[v]
  | none=>zcZ vs n
theorem zl0 {vs:List Vl} {n:Nat} {v w:Vl} (h:vs[n+1]?=some v) (h':vs[n]?=some w):zcZ vs (n+2)=if v=w then zcZ vs (n+1) else zcZ vs (n+1)++[v]:=by
 rw [zcZ,h]
 simp only [Nat.add_sub_cancel,h']
 by_cases e:v=w
 ·rw [if_pos ⟨by omega,by rw [e]⟩,if_pos e]
 ·rw [if_neg (fun h=>e (by injection h.2 with h; exact h.symm)),if_neg e]
theorem zor (vs:List Vl):∀ n,(zcZ vs n).length≤n
 | 0=>Nat.le_refl _
 | n+1=>by
  have:=zor vs n
  rw [zcZ]
  split
  ·split
   ·omega
   ·rw [List.length_append,List.length_singleton]; omega
  ·omega
theorem zBM (vs:List Vl) (hn:vs.length≤1000000) (id k0:Nat) (hk0:1≤k0) (hk1:k0<vs.length) (hA0:zcZ vs (k0+1)=vs.take k0) (l0:List GV) (g0:Nat) (H0:GH) (hid:id<H0.objs.length) (hbo:H0.bo≤id) (K:GExit × St→Prop)
 (h0:zag l0 0=.hsl id 0 vs.length 3 false) (h4:zag l0 4=.hsl id (k0 * 3) (vs.length - k0) 3 false) (h3:zag l0 3=.int .i64 k0) (h5:zag l0 5=.int .i64 1)
 (he:∀ l g,zag l 3=.int .i64 (zcZ vs vs.length).length→(zcZ vs vs.length).length<vs.length→Fr zi5 l0 l→K (.exit 2,⟨⟨l,g⟩,zck H0 id (zcZ vs vs.length++vs.drop (zcZ vs vs.length).length)⟩)) :
 optW (erun T (.loop zi5) ⟨⟨l0,g0⟩,zck H0 id vs⟩) K:=by
 refine zeH (l0:=l0) (fun m l g H=>∃ j:Nat,m=vs.length - (k0+j)∧1≤j∧k0+j≤vs.length∧(zcZ vs (k0+j)).length≤k0+j - 1∧H=zck H0 id (zcZ vs (k0+j)++vs.drop (zcZ vs (k0+j)).length)∧zag l 3=.int .i64 (zcZ vs (k0+j)).length∧zag l 5=.int .i64 j) ?_ (vs.length - (k0+1)) l0 g0 _ ⟨1,rfl,Nat.le_refl _,by omega,by rw [hA0,List.length_take]; omega,by rw [hA0,List.length_take,Nat.min_eq_left (by omega),List.take_append_drop],by rw [hA0,List.length_take,Nat.min_eq_left (by omega)]; exact h3,h5⟩ (.refl _ _ _)
 intro m l g H ⟨j,hm,hj1,hj,hA,hH,q3,q5⟩ hf
 subst hH
 have q0:=hf.get 0 rfl h0 (by simp [GV.boxy])
 have q4:=hf.get 4 rfl h4 (by simp [GV.boxy])
 by_cases hlt:k0+j<vs.length
 ·have hlt':(j:Int)<((vs.length - k0:Nat):Int):=by omega
  obtain ⟨w,hw⟩:∃ w,vs[k0+j]?=some w:=⟨_,List.getElem?_eq_getElem hlt⟩
  obtain ⟨u,hu⟩:∃ u,vs[k0+j - 1]?=some u:=⟨_,List.getElem?_eq_getElem (by omega)⟩
  have hst:zcZ vs (k0+j+1)=if w=u then zcZ vs (k0+j) else zcZ vs (k0+j)++[w]:=by
   have:=zl0 (vs:=vs) (n:=k0+j - 1) (v:=w) (w:=u) (by rw [show k0+j - 1+1=k0+j by omega]; exact hw) hu
   rw [show k0+j - 1+2=k0+j+1 by omega,show k0+j - 1+1=k0+j by omega] at this
   exact this
  generalize hAe:zcZ vs (k0+j)=A at *
  obtain ⟨y,B,hyB⟩:∃ y B,vs.drop A.length=y::B:=by
   cases h:vs.drop A.length with
   | nil=>have:=congrArg List.length h; simp at this; omega
   | cons y B=>exact ⟨y,B,rfl⟩
  have optw:(A++vs.drop A.length)[k0+j]?=some w:=by
   rw [List.getElem?_append_right (by omega),List.getElem?_drop,show A.length+(k0+j - A.length)=k0+j by omega]; exact hw
  have optu:(A++vs.drop A.length)[k0+j - 1]?=some u:=by
   rw [List.getElem?_append_right (by omega),List.getElem?_drop,show A.length+(k0+j - 1 - A.length)=k0+j - 1 by omega]; exact hu
  have atw:=zkw optw
  have atu:=zkw optu
  have hlen:=zcV (A++vs.drop A.length)
  have hRl:(A++vs.drop A.length).length=vs.length:=by rw [List.length_append,List.length_drop]; omega
  rw [show (k0+j) * 3=k0 * 3+j * 3 by omega] at atw
  rw [show (k0+j - 1) * 3=k0 * 3+(j - 1) * 3 by omega] at atu
  have hle1:k0 * 3+j * 3+3≤(zcs (A++vs.drop A.length)).length:=by omega
  have hle2:k0 * 3+(j - 1) * 3+3≤(zcs (A++vs.drop A.length)).length:=by omega
  have hle3:A.length * 3+3≤(zcs (A++vs.drop A.length)).length:=by omega
  have hrow:=zev hid (A++vs.drop A.length)
  have ix1:gIx (vs.length - k0) (.int .i64 (j:Int))=some j:=by simp only [gIx]; rw [if_pos (by omega)]; simp
  have ix2:gIx (vs.length - k0) (.int .i64 ((j:Int) - 1))=some (j - 1):=by simp only [gIx]; rw [if_pos (by omega)]; congr 1; omega
  have ix3:gIx vs.length (.int .i64 (A.length:Int))=some A.length:=by simp only [gIx]; rw [if_pos (by omega)]; simp
  have w0:IntKind.i64.wrap ((j:Int) - 1)=(j:Int) - 1:=zam (by omega) (by omega)
  have w1:IntKind.i64.wrap ((j:Int)+1)=(j:Int)+1:=zam (by omega) (by omega)
  have w2:IntKind.i64.wrap ((A.length:Int)+1)=(A.length:Int)+1:=zam (by omega) (by omega)
  have hbo':(zck H0 id (A++vs.drop A.length)).bo≤id:=hbo
  have lv:=zjd w.k w.n w.t u.k u.n u.t
  have hwu:decide (w.k=u.k∧w.n=u.n∧w.t=u.t)=decide (w=u):=by
   congr 1; apply propext
   constructor
   ·rintro ⟨a,b,c⟩; cases w; cases u; simp_all
   ·rintro rfl; exact ⟨rfl,rfl,rfl⟩
  rw [hwu] at lv
  simp only [vlC] at atw atu
  by_cases hc:w=u
  ·rw [decide_eq_true hc] at lv
   simp [zi5,q0,q3,q4,q5,hlt',ix1,ix2,w0,w1,hrow,atw,atu,hle1,hle2,lv]
   refine ⟨vs.length - (k0+(j+1)),by omega,j+1,rfl,by omega,by omega, ?_⟩
   rw [← Nat.add_assoc,hst,if_pos hc]
   exact ⟨by omega,rfl,by simp,by simp⟩
  ·rw [decide_eq_false hc] at lv
   have hst2:(⟨(zck H0 id (A++vs.drop A.length)).objs.set id (.row 34 ((zcs (A++vs.drop A.length)).take (A.length * 3)++(.int .i64 w.k::.int .i64 w.n::.str (mkB w.t)::(zcs (A++vs.drop A.length)).drop (A.length * 3+3)))),(zck H0 id (A++vs.drop A.length)).toks,(zck H0 id (A++vs.drop A.length)).bo,(zck H0 id (A++vs.drop A.length)).bt⟩:GH)=zck H0 id (A++w::B):=by
    have:=zwZ A y w B
    simp only [vlC,List.cons_append,List.nil_append] at this
    rw [hyB,this]
    simp [zck]
   simp [zi5,q0,q3,q4,q5,hlt',ix1,ix2,ix3,w0,w1,w2,hrow,atw,atu,hle1,hle2,hle3,lv,zae,hbo',hst2]
   have hB:B=vs.drop (A.length+1):=by
    have:=congrArg (List.drop 1) hyB
    simpa [List.drop_drop] using this.symm
   refine ⟨vs.length - (k0+(j+1)),by omega,j+1,rfl,by omega,by omega, ?_⟩
   rw [← Nat.add_assoc,hst,if_neg hc]
   exact ⟨by rw [List.length_append,List.length_singleton]; omega,by rw [hB]; simp,by simp,by simp⟩
 ·have hlt':¬ (j:Int)<((vs.length - k0:Nat):Int):=by omega
  have hje:k0+j=vs.length:=by omega
  rw [hje] at hA q3
  simp [zi5,q4,q5,hlt']
  rw [hje]
  exact fun hf'=>he _ _ (by simp [q3]) (by omega) hf'
theorem zuc {k n:Nat} (hk:k<n) (id:Nat) (call:Nat→List GV→GH→Option (GV × GH)) (l:List GV) (g:Nat) (H':GH):zao call (.slsl 3 true false false) [.hsl id 0 n 3 false,.int .i64 (k:Int)] ⟨l,g⟩ H'=some ⟨.hsl id (k * 3) (n - k) 3 false,none,H',g⟩:=by
 have b1:zaO n true false false [.int .i64 (k:Int)]=some (k,n,none):=by simp [zaO,zce]; omega
 show (Option.map _ (if (3:Nat)=3 then (zaO n true false false [.int .i64 (k:Int)]).map _ else none))=_
 rw [b1]
 simp [hk]
theorem zyW {k n:Nat} (hk:k≤n) (h0:0<k) (id:Nat) (call:Nat→List GV→GH→Option (GV × GH)) (l:List GV) (g:Nat) (H':GH):zao call (.slsl 3 false true false) [.hsl id 0 n 3 false,.int .i64 (k:Int)] ⟨l,g⟩ H'=some ⟨.hsl id 0 k 3 false,none,H',g⟩:=by
 have b2:zaO n false true false [.int .i64 (k:Int)]=some (0,k,none):=by simp [zaO,zce]; omega
 show (Option.map _ (if (3:Nat)=3 then (zaO n false true false [.int .i64 (k:Int)]).map _ else none))=_
 rw [b2]
 simp [h0]
theorem zos {vs:List Vl} (h:vs≠[]):∀ n,0<(zcZ vs (n+1)).length
 | 0=>by
  cases vs with
  | nil=>exact absurd rfl h
  | cons v vs=>simp [zcZ]
 | n+1=>by
  have:=zos h n
  rw [zcZ]
  split
  ·split
   ·exact this
   ·rw [List.length_append]; omega
  ·exact this
theorem zyX (vs:List Vl) (hn:vs.length≤1000000) (h1:1≤vs.length) (id:Nat) (l0:List GV) (g0:Nat) (H0:GH) (hid:id<H0.objs.length) (hbo:H0.bo≤id) (K:GExit × St→Prop)
 (h0:zag l0 0=.hsl id 0 vs.length 3 false) (h3:zag l0 3=.int .i64 1)
 (he:∀ l g,zcZ vs vs.length=vs→zag l 0=.hsl id 0 vs.length 3 false→K (.exit 0,⟨⟨l,g⟩,zck H0 id vs⟩))
 (hr:∀ l g Z,zag l 2=.hsl id 0 (zcZ vs vs.length).length 3 false→K (.ret,⟨⟨l,g⟩,zck H0 id (zcZ vs vs.length++Z)⟩)) :
 optW (erun T (.loop zhx) ⟨⟨l0,g0⟩,zck H0 id vs⟩) K:=by
 have hvne:vs≠[]:=fun e=>by rw [e] at h1; simp at h1
 refine zeH (l0:=l0) (fun m l g H=>∃ k:Nat,m=vs.length - k∧1≤k∧k≤vs.length∧zcZ vs k=vs.take k∧H=zck H0 id vs∧zag l 3=.int .i64 k) ?_ (vs.length - 1) l0 g0 _ ⟨1,rfl,Nat.le_refl _,h1,by cases vs with | nil=>exact absurd rfl hvne | cons v vs=>simp [zcZ],rfl,h3⟩ (.refl _ _ _)
 intro m l g H ⟨k,hm,hk1,hk,hA,hH,q3⟩ hf
 subst hH
 have q0:=hf.get 0 rfl h0 (by simp [GV.boxy])
 by_cases hlt:k<vs.length
 ·have hlt':(k:Int)<(vs.length:Int):=by omega
  obtain ⟨w,hw⟩:∃ w,vs[k]?=some w:=⟨_,List.getElem?_eq_getElem hlt⟩
  obtain ⟨u,hu⟩:∃ u,vs[k - 1]?=some u:=⟨_,List.getElem?_eq_getElem (by omega)⟩
  have hst:zcZ vs (k+1)=if w=u then zcZ vs k else zcZ vs k++[w]:=by
   have:=zl0 (vs:=vs) (n:=k - 1) (v:=w) (w:=u) (by rw [show k - 1+1=k by omega]; exact hw) hu
   rw [show k - 1+2=k+1 by omega,show k - 1+1=k by omega] at this
   exact this
  have atw:=zkw hw
  have atu:=zkw hu
  have hlen:=zcV vs
  have hle1:k * 3+3≤(zcs vs).length:=by omega
  have hle2:(k - 1) * 3+3≤(zcs vs).length:=by omega
  have hrow:=zev hid vs
  have ix1:gIx vs.length (.int .i64 (k:Int))=some k:=by simp only [gIx]; rw [if_pos (by omega)]; simp
  have ix2:gIx vs.length (.int .i64 ((k:Int) - 1))=some (k - 1):=by simp only [gIx]; rw [if_pos (by omega)]; congr 1; omega
  have w0:IntKind.i64.wrap ((k:Int) - 1)=(k:Int) - 1:=zam (by omega) (by omega)
  have w1:IntKind.i64.wrap ((k:Int)+1)=(k:Int)+1:=zam (by omega) (by omega)
  have lv:=zjd w.k w.n w.t u.k u.n u.t
  have hwu:decide (w.k=u.k∧w.n=u.n∧w.t=u.t)=decide (w=u):=by
   congr 1; apply propext
   constructor
   ·rintro ⟨a,b,c⟩; cases w; cases u; simp_all
   ·rintro rfl; exact ⟨rfl,rfl,rfl⟩
  rw [hwu] at lv
  simp only [vlC] at atw atu
  by_cases hc:w=u
  ·rw [decide_eq_true hc] at lv
   rw [if_pos hc,hA] at hst
   have s1:=fun l g H'=>zuc hlt id (ecall T) l g H'
   simp [zhx,q0,q3,hlt',ix1,ix2,w0,hrow,atw,atu,hle1,hle2,lv,s1]
   rw [zay,zar,zay,zar]
   refine zBM vs hn id k hk1 hlt hst _ _ H0 hid hbo _ (by simp [q0]) (by simp) (by simp [q3]) (by simp) ?_
   intro l2 g2 k3 hcl hf2
   have k0:=hf2.get 0 rfl (v:=.hsl id 0 vs.length 3 false) (by simp [q0]) (by simp [GV.boxy])
   have hpos:0<(zcZ vs vs.length).length:=by
    obtain ⟨n,hn⟩:∃ n,vs.length=n+1:=⟨vs.length - 1,by omega⟩
    rw [hn]; exact zos hvne n
   generalize zcZ vs vs.length=A at *
   have s2:=fun l g H'=>zuc hcl id (ecall T) l g H'
   have s3:=fun l g H'=>zyW (Nat.le_of_lt hcl) hpos id (ecall T) l g H'
   have hrow':=zev hid (A++vs.drop A.length)
   have hlen':=zcV (A++vs.drop A.length)
   have hRl:(A++vs.drop A.length).length=vs.length:=by rw [List.length_append,List.length_drop]; omega
   have hrest:vs.length - A.length > 0:=by omega
   obtain ⟨Z,hZ⟩:∃ Z:List Vl,Z=List.replicate (vs.length - A.length) ⟨0,0,[]⟩:=⟨_,rfl⟩
   have hcz:ze0 (zck H0 id (A++vs.drop A.length)) 3 (.agg [.int .i64 0,.int .i64 0,.str ⟨#[]⟩]) [.hsl id (A.length * 3) (vs.length - A.length) 3 false]=some (.tup [],zck H0 id (A++Z)):=by
    simp only [ze0,hrow']
    rw [if_pos (by refine ⟨trivial,hbo,hrest, ?_,rfl,rfl⟩; rw [hlen',hRl]; omega)]
    have e1:(zcs (A++vs.drop A.length)).take (A.length * 3)=zcs A:=by
     rw [zct,← zcV A,List.take_left']; rfl
    have e2:(zcs (A++vs.drop A.length)).drop (A.length * 3+(vs.length - A.length) * 3)=[]:=List.drop_eq_nil_iff.2 (by rw [hlen',hRl]; omega)
    have e3:(List.replicate (vs.length - A.length) (GV.agg [.int .i64 0,.int .i64 0,.str ⟨#[]⟩])).flatMap GV.cells=zcs Z:=by
     rw [hZ,zcs]
     generalize vs.length - A.length=n
     induction n with
     | zero=>rfl
     | succ n ih=>rw [List.replicate_succ,List.replicate_succ,List.flatMap_cons,List.flatMap_cons,ih]; rfl
    rw [e1,e2,e3,List.append_nil,← zct]
    simp [zck]
   simp [k0,k3,s2,s3,hcz]
   exact fun _=>hr _ _ Z (by simp)
  ·rw [decide_eq_false hc] at lv
   rw [if_neg hc,hA] at hst
   simp [zhx,q0,q3,hlt',ix1,ix2,w0,w1,hrow,atw,atu,hle1,hle2,lv]
   refine ⟨vs.length - (k+1),by omega,k+1,rfl,by omega,by omega, ?_,by simp⟩
   rw [hst,List.take_add_one,hw]; rfl
 ·have hlt':¬ (k:Int)<(vs.length:Int):=by omega
  have hke:k=vs.length:=by omega
  rw [hke,List.take_length] at hA
  simp [zhx,q0,q3,hlt']
  exact fun hf'=>he _ _ hA (by simp [q0])
theorem zqx (vs:List Vl) (hn:vs.length≤1000000) (h1:1≤vs.length) (id:Nat) (H:GH) (hrow:H.objs[id]?=some (.row 34 (zcs vs))) (hbo:H.bo≤id) :
 ∃ Z,ecall T zoK [.hsl id 0 vs.length 3 false] H=some (.hsl id 0 (zcZ vs vs.length).length 3 false,zck H id (zcZ vs vs.length++Z)):=by
 have hid:=(List.getElem?_eq_some_iff.1 hrow).1
 have hsame:=zqw hrow
 have hvne:vs≠[]:=fun e=>by rw [e] at h1; simp at h1
 have key:optW (ecall T zoK [.hsl id 0 vs.length 3 false] H) fun r=>∃ Z,r=(.hsl id 0 (zcZ vs vs.length).length 3 false,zck H id (zcZ vs vs.length++Z)):=by
  rw [zad zAs rfl (by simp [zms]),zab]
  simp only [zms,zxL]
  by_cases h2:(vs.length:Int)<2
  ·have h2':vs.length<2:=by omega
   have h3:vs.length=1:=by omega
   have hc:zcZ vs vs.length=vs:=by
    cases vs with
    | nil=>exact absurd rfl hvne
    | cons v vs =>
     have:vs=[]:=List.length_eq_zero_iff.1 (by simpa using h3)
     subst this; rfl
   simp [h2,h2']
   exact ⟨by rw [hc],⟨[],by rw [hc,List.append_nil,hsame]⟩⟩
  ·have h2':¬ vs.length<2:=by omega
   simp [h2,h2']
   rw [zay,zar]
   have hlo:∀ (l0:List GV) (g0:Nat) (K:GExit × St→Prop),optW (erun T (.loop zhx) ⟨⟨l0,g0⟩,zck H id vs⟩) K→optW (erun T (.loop zhx) ⟨⟨l0,g0⟩,H⟩) K:=fun l0 g0 K h=>by rwa [hsame] at h
   refine hlo _ _ _ (zyX vs hn h1 id _ _ H hid hbo _ (by simp) (by simp) ?_ ?_)
   ·intro l g hc k0
    rw [hc]
    simp [k0]
    exact ⟨[],by rw [List.append_nil]⟩
   ·intro l g Z k2
    simp [k2]
    exact ⟨Z,rfl⟩
 obtain ⟨r,h,Z,rfl⟩:=key
 exact ⟨Z,h⟩
structure Grow (H H':GH):Prop where
 bo:H'.bo=H.bo
 bt:H'.bt=H.bt
 toks:H'.toks=H.toks
 len:H.objs.length≤H'.objs.length
 keep:∀ (i:Nat) (o:GObj),i<H.objs.length→H.objs[i]?=some o→H'.objs[i]?=some o
inductive VRow (H0 H:GH):GV→List Vl→Prop
 | nil (h:Grow H0 H):VRow H0 H .nilsl []
 | row (id:Nat) (vs:List Vl) (h:Grow H0 H) (hne:vs≠[]) (hid:H0.objs.length≤id) (hr:H.objs[id]?=some (.row 34 (zcs vs))):VRow H0 H (.hsl id 0 vs.length 3 false) vs
theorem VRow.ok {H0 H:GH} {s:GV} {vs:List Vl} (h:VRow H0 H s vs):s.ok=true∧(∀ t,zbx t s=s)∧s.boxy=false:=by
 cases h <;> exact ⟨rfl,fun _=>rfl,rfl⟩
theorem VRow.grow {H0 H:GH} {s:GV} {vs:List Vl} (h:VRow H0 H s vs):Grow H0 H:=by cases h <;> assumption
theorem zud {H0 H:GH} {s:GV} {vs:List Vl} (h:VRow H0 H s vs) (hbo:H0.bo≤H0.objs.length) (hl:vs.length≤1000) (v:Vl) :
 ∃ s' H',za9 H 34 3 32 s (.sl 3 [vlG v] .exact)=some (s',H')∧VRow H0 H' s' (vs++[v]):=by
 have hg:zbK 3 (.sl 3 [vlG v] .exact)=some [vlG v]:=by simp [zbK]
 cases h with
 | nil h =>
  refine ⟨.hsl H.objs.length 0 1 3 false,H.newObj (.row 34 (vlC v)), ?_, ?_⟩
  ·unfold za9
   rw [hg]
   simp [room,maxLen]
  ·have:=VRow.row (H0:=H0) (H:=H.newObj (.row 34 (vlC v))) H.objs.length [v] ⟨h.bo,h.bt,h.toks,by show _≤(H.objs++_).length; rw [List.length_append]; have:=h.len; omega,fun i o hi ho=>by
    show (H.objs++_)[i]?=some o
    rw [List.getElem?_append_left (by have:=h.len; omega)]; exact h.keep i o hi ho⟩ (by simp) h.len (by show (H.objs++_)[H.objs.length]?=_; simp [zcs,vlC])
   exact this
 | row id _ h hne hid hr =>
  have hlen:=zcV vs
  have hb:H.bo≤id:=by rw [h.bo]; omega
  have hidl:=(List.getElem?_eq_some_iff.1 hr).1
  have ga:=zdN (ty:=34) (sz:=3) (bytes:=32) (ag:=false) (x:=.sl 3 [vlG v] .exact) hr hg hlen hb (by simp only [List.length_singleton,room]; omega) (by simp only [List.length_singleton,maxLen]; omega) (by simp)
  have e1:zcs vs++[vlG v].flatMap GV.cells=zcs (vs++[v]):=by
   rw [zct]; simp [zcs,vlG]
  have e2:vs.length+[vlG v].length=(vs++[v]).length:=by simp
  rw [e1,e2] at ga
  have ga':za9 H 34 3 32 (.hsl id 0 vs.length 3 false) (.sl 3 [vlG v] .exact)=some (.hsl H.objs.length 0 (vs++[v]).length 3 false,{ H with objs:=H.objs.set id .dead++[.row 34 (zcs (vs++[v]))] }):=by
   unfold za9
   rw [hg]
   simp only [Option.bind_some]
   exact ga
  refine ⟨_,_,ga',VRow.row _ _ ⟨h.bo,h.bt,h.toks, ?_,fun i o hi ho=>?_⟩ (by simp) ?_ ?_⟩
  ·show _≤(H.objs.set id .dead++_).length
   rw [List.length_append,List.length_set]; have:=h.len; omega
  ·show (H.objs.set id .dead++_)[i]?=some o
   have:=h.len
   rw [List.getElem?_append_left (by rw [List.length_set]; omega),List.getElem?_set_ne (by omega)]
   exact h.keep i o hi ho
  ·exact h.len
  ·show (H.objs.set id .dead++_)[H.objs.length]?=_
   rw [List.getElem?_append_right (by rw [List.length_set]; exact Nat.le_refl _),List.length_set,Nat.sub_self]; rfl
def zew (e:Ent):Vl:=⟨e.k,e.n,e.t⟩
theorem znA (L:List Ent) (hL:L.length≤1000) (v1:GV) (hv:Elems 5 v1 (L.map zbX)) (l0:List GV) (g0:Nat) (H0:GH) (hbo:H0.bo≤H0.objs.length) (K:GExit × St→Prop)
 (h10:zag l0 10=v1) (h11:zag l0 11=.int .i64 L.length) (h12:zag l0 12=.int .i64 0) (h5:zag l0 5=.nilsl)
 (he:∀ l g H s,zag l 5=s→VRow H0 H s (L.map zew)→Fr zrE l0 l→K (.exit 0,⟨⟨l,g⟩,H⟩)) :
 optW (erun T (.loop zrE) ⟨⟨l0,g0⟩,H0⟩) K:=by
 refine za5 (T:=T) (n:=L.length) (A:=GV) (fun _ s=>[(5,s)]) (fun i s _ H'=>VRow H0 H' s ((L.take i).map zew)) (c:=13) (b:=0) (I:=12) (N:=11) (d:=21) rfl (by omega) (by decide) ⟨rfl,rfl⟩ (by simp) ?_ ?_ 0 .nilsl _ _ H0 (by omega) (.nil ⟨rfl,rfl,rfl,Nat.le_refl _,fun _ _ _ h=>h⟩) (by simp [h5]) (.refl _ _ _) h12 h11
 ·intro i s l g H' hi hG hh hf hI
  have h10':=hf.get 10 rfl h10 (by simp [hv.boxy])
  obtain ⟨lt,ix,opt,get,⟨t,sv⟩,wr_,mem⟩:=zeU (e:=zbX) hv hi (by omega)
  generalize L[i]'hi=e at opt get mem
  have ht:(L.take (i+1)).map zew=(L.take i).map zew++[zew e]:=by rw [List.take_add_one,opt]; simp
  rw [ht]
  obtain ⟨s',H2,a1,G1⟩:=zud hG hbo (by rw [List.length_map,List.length_take]; omega) (zew e)
  obtain ⟨o1,o2,o3⟩:=hG.ok
  obtain ⟨p1,p2,p3⟩:=G1.ok
  simp only [zaB,zaM,and_true] at hh
  rw [sv] at h10'
  simp only [vlG,vlC,zew] at a1
  simp [h10',hI,hh,ix,opt,get,zcY,zae,zaj,za6,o1,o2,a1,p1,zep]
  exact fun _=>by simpa using G1
 ·intro s l g H' hG hh hf
  simp only [zaB,zaM,and_true] at hh
  rw [List.take_length] at hG
  exact he l g H' s hh hG hf
theorem zue {H:GH} {q:Nat} {vs:List Vl} (hne:vs≠[]) (hle:vs.length≤1000000) (hq:H.objs[q]?=some (.row 34 (zcs vs))) (hbq:H.bo≤q) :
 ecall T zu7 [.hsl q 0 vs.length 3 false,.func 141 [] []] H=some (.tup [],zck H q (za3 (ltC zfm) vs)):=by
 refine zl7 zAr (by simp) ?_ ⟨rfl,rfl⟩
 have hpos:0<vs.length:=List.length_pos_iff.2 hne
 have hone:(zcs vs).all GV.one=true:=by
  rw [List.all_eq_true]
  intro c hc
  obtain ⟨p,_,hp⟩:=List.mem_flatMap.1 hc
  simp only [vlC,List.mem_cons,List.not_mem_nil,or_false] at hp
  rcases hp with rfl | rfl | rfl <;> rfl
 have hrow:znq 3 vs.length (zcs vs)=vs.map fun p=>vlC p:=zf4 (en:=vlC) (fun _=>rfl) vs
 have hdec:zur deV (znq 3 vs.length (zcs vs))=some vs:=by
  rw [hrow]
  exact zhn (de:=deV) (en:=vlC) vs (fun b _=>by
   show (some ⟨b.k,b.n,(mkB b.t).data.toList⟩:Option Vl)=some b
   simp)
 simp only [zj4,zgW,hq]
 rw [if_pos ⟨trivial,trivial,hbq,hpos,by decide,hle,zcV vs,hone⟩,hdec]
 simp [zck,zcs]
theorem zl1 {vs:List Vl} (hs:vs.Pairwise fun a b=>ltC zfm b a=false):∀ n≤vs.length,(zcZ vs n).Pairwise (fun a b=>zfm a b<0)∧∀ x,x∈zcZ vs n↔x∈vs.take n
 | 0,_=>⟨List.Pairwise.nil,fun x=>by simp [zcZ]⟩
 | n+1,hn=>by
  obtain ⟨h1,h2⟩:=zl1 hs n (by omega)
  have hv:vs[n]?=some vs[n]:=List.getElem?_eq_getElem (by omega)
  have le:∀ i j (hi:i<vs.length) (hj:j<vs.length),i≤j→zfm vs[i] vs[j]≤0:=fun i j hi hj hij=>by
   rcases Nat.lt_or_ge i j with h | h
   ·have:=(List.pairwise_iff_getElem.1 hs) i j hi hj h
    have h3:¬ zfm vs[j] vs[i]<0:=of_decide_eq_false this
    have:=ordV_ok.swap vs[i] vs[j]
    omega
   ·have:i=j:=by omega
    subst this
    have:=ordV_ok.self vs[i]
    omega
  have ht:vs.take (n+1)=vs.take n++[vs[n]]:=by rw [List.take_add_one,hv]; rfl
  rw [zcZ,hv]
  simp only
  split
  ·rename_i hc
   obtain ⟨hn0,hp⟩:=hc
   refine ⟨h1,fun x=>?_⟩
   rw [h2,ht,List.mem_append,List.mem_singleton]
   constructor
   ·exact fun h=>.inl h
   ·rintro (h | h)
    ·exact h
    ·rw [h]
     have h4:(vs.take n)[n - 1]?=some vs[n]:=by rw [List.getElem?_take_of_lt (by omega)]; exact hp
     exact List.mem_of_getElem? h4
  ·rename_i hc
   refine ⟨?_,fun x=>?_⟩
   ·rw [List.pairwise_append]
    refine ⟨h1,List.pairwise_singleton _ _,fun x hx y hy=>?_⟩
    rw [List.mem_singleton] at hy
    rw [hy]
    obtain ⟨j,hj,hje⟩:=List.mem_iff_getElem.1 ((h2 x).1 hx)
    rw [List.length_take] at hj
    have hjl:j<vs.length:=by omega
    have hxe:x=vs[j]:=by rw [← hje]; simp
    have h3:=le j n hjl (by omega) (by omega)
    rw [hxe]
    rcases Int.lt_or_eq_of_le h3 with h4 | h4
    ·exact h4
    ·exfalso
     have e1:=ordV_ok.zero _ _ h4
     have h5:=le j (n - 1) hjl (by omega) (by omega)
     have h6:=le (n - 1) n (by omega) (by omega) (by omega)
     rw [e1] at h5
     have h7:=ordV_ok.swap vs[n - 1] vs[n]
     have e2:=ordV_ok.zero vs[n - 1] vs[n] (by omega)
     exact hc ⟨by omega,by rw [List.getElem?_eq_getElem (by omega),e2]⟩
   ·rw [List.mem_append,h2,ht,List.mem_append]
theorem zw0 (vs:List Vl):(zcs vs).all GV.one=true:=by
 rw [List.all_eq_true]
 intro c hc
 obtain ⟨p,_,hp⟩:=List.mem_flatMap.1 hc
 simp only [vlC,List.mem_cons,List.not_mem_nil,or_false] at hp
 rcases hp with rfl | rfl | rfl <;> rfl
theorem ziy (Z:List GV):∀ A:List Vl,za4 3 A.length (zcs A++Z)=A.map vlG
 | []=>rfl
 | v::A=>by
  rw [zeu,List.length_cons,za4,List.append_assoc]
  have h1:(vlC v++(zcs A++Z)).take 3=vlC v:=by simp [vlC]
  have h2:(vlC v++(zcs A++Z)).drop 3=zcs A++Z:=by simp [vlC]
  rw [h1,h2,ziy Z A]
  rfl
theorem znB {H:GH} {id:Nat} {A Z:List Vl} (h:H.objs[id]?=some (.row 34 (zcs (A++Z)))) (hbo:H.bo≤id):zaR H [.hsl id 0 A.length 3 false]=some (.sl 3 (A.map vlG) .imm,{ H with objs:=H.objs.set id .dead }):=by
 simp only [zaR,h]
 have hl:=zcV (A++Z)
 rw [List.length_append] at hl
 have hone:(((zcs (A++Z)).drop 0).take (A.length * 3)).all GV.one=true:=by
  rw [List.all_eq_true]
  intro c hc
  exact List.all_eq_true.1 (zw0 (A++Z)) c (List.mem_of_mem_drop (List.mem_of_mem_take hc))
 rw [if_pos ⟨hbo,by omega,by omega,hone⟩]
 rw [List.drop_zero,zct,ziy]
theorem zuf (a b n:Nat) (A:List Vl):zaI a b (n+3) (.sl 3 (A.map vlG) .imm)=some (.sl 3 (A.map vlG) .imm):=by
 have h:(A.map vlG).mapM (zaI a b (n+2))=some (A.map vlG):=zcW a b (n+2) _ fun x hx=>by
  obtain ⟨v,_,rfl⟩:=List.mem_map.1 hx
  rfl
 show (List.mapM (zaI a b (n+2)) (A.map vlG)).map (fun xs=>GV.sl 3 xs .imm)=_
 rw [h]; rfl
def zb5 (S:List Stp) (x:El):List Vl:=zcZ (za3 (ltC zfm) ((zb2 S x).map zew)) (zb2 S x).length
theorem zw1 (S:List Stp) (x:El):(zb5 S x).Pairwise (fun a b=>zfm a b<0)∧(∀ y,y∈zb5 S x↔y∈(zb2 S x).map zew)∧(zb5 S x).length≤(zb2 S x).length:=by
 have hs:=zcK (lt:=ltC zfm) (ordV_ok.swo fun p:Vl=>p) ((zb2 S x).map zew)
 have hl:(za3 (ltC zfm) ((zb2 S x).map zew)).length=(zb2 S x).length:=by rw [(zaW _).length_eq,List.length_map]
 obtain ⟨h1,h2⟩:=zl1 hs (zb2 S x).length (by omega)
 refine ⟨h1,fun y=>?_,zor _ _⟩
 rw [zb5,h2,← hl,List.take_length]
 exact (zaW _).mem_iff
theorem zug {H:GH} {s m:Nat} {S:List Stp} (h:zvB H s m S) (x:El) (hk:zaA true kLs (elG x)=true) (hL:(zb2 S x).length≤1000) :
 ∃ v,ecall T zq1 [.ptr s 0,.agg (elC x)] H=some (v,H)∧Elems 3 v ((zb5 S x).map vlG):=by
 have ho:zvB H.over s m S:=h
 have hbo0:H.over.bo≤H.over.objs.length:=Nat.le_refl _
 obtain ⟨v1,hen,hE⟩:=zpc ho x hk (by omega) hbo0
 have gm:=zb6 (zb2 S x) H.over
 have hvs:zb5 S x=zcZ (za3 (ltC zfm) ((zb2 S x).map zew)) (zb2 S x).length:=rfl
 rw [hvs]
 generalize zb2 S x=L at hL hen hE gm
 generalize hH1:zbY L H.over=H1 at hen gm
 have hbo1:H1.bo≤H1.objs.length:=by rw [gm.bo]; exact Nat.le_trans hbo0 gm.len
 have el:=hE.len
 have eu:=zaf hE
 have ek:=hE.ok
 simp only [List.length_map] at el
 have hlx:(elC x).length=5:=rfl
 have htx:List.take 5 (elC x)=elC x:=rfl
 have key:optW (ecall T zq1 [.ptr s 0,.agg (elC x)] H) fun r=>∃ v,r=(v,H)∧Elems 3 v ((zcZ (za3 (ltC zfm) (L.map zew)) L.length).map vlG):=by
  rw [zci zC1 rfl (by simp [zrF]),zab]
  simp only [zrF,zAa]
  simp [hlx,htx,hen,el,eu,ek,zbc,zdc]
  rw [zay,zar]
  refine znA L hL v1 hE _ _ H1 hbo1 _ (by simp [eu]) (by simp) (by simp) (by simp) ?_
  intro l g H2 s2 k5 hV hf
  cases hs:L with
  | nil =>
   rw [hs] at hV
   cases hV with
   | nil hG =>
    have hsrt:ecall T zu7 [.nilsl,.func 141 [] []] H2=some (.tup [],H2):=zl7 zAr (by simp) rfl ⟨rfl,rfl⟩
    have hcmp:ecall T zoK [.nilsl] H2=some (.nilsl,H2):=by
     apply optW.eq
     rw [zad zAs rfl (by simp [zms]),zab]
     simp [zms,zxL]
    simp [k5,hsrt,hcmp,zbc,zdc]
    exact .nil
   | row _ _ _ hne=>exact absurd rfl hne
  | cons e0 L0 =>
   have hLne:L≠[]:=by rw [hs]; simp
   have hvs:L.map zew≠[]:=by rw [hs]; simp
   have hvl:(L.map zew).length=L.length:=by simp
   rw [← hs]
   have hLp:0<L.length:=List.length_pos_iff.2 hLne
   generalize hvd:L.map zew=vs at hV hvs hvl
   cases hV with
   | nil=>exact absurd rfl hvs
   | row id _ hG hne hid hr =>
    have hb2:H2.bo≤id:=by rw [hG.bo]; omega
    have hsrt:=zue hvs (by omega) hr hb2
    have hsl:(za3 (ltC zfm) vs).length=vs.length:=(zaW vs).length_eq
    have hidl:=(List.getElem?_eq_some_iff.1 hr).1
    obtain ⟨Z,hcmp⟩:=zqx (za3 (ltC zfm) vs) (by omega) (by omega) id (zck H2 id (za3 (ltC zfm) vs)) (zev hidl _) hb2
    rw [hsl] at hcmp
    have hfz:=znB (H:=zck (zck H2 id (za3 (ltC zfm) vs)) id (zcZ (za3 (ltC zfm) vs) vs.length++Z)) (zev (by show id<(H2.objs.set id _).length; rw [List.length_set]; exact hidl) _) hb2
    simp [k5,hsrt,hcmp,zbc,hfz,zuf]
    rw [hvl]; exact .sl _ _
 obtain ⟨r,h,v,rfl,h2⟩:=key
 exact ⟨v,h,h2⟩
def zus (a:Evt):Vl:=⟨a.vk,a.vn,a.vt⟩
end Go.Proofs.YtchjbidfmhmmhaaGreatDoor
