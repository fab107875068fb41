/- Own work: the zaO machine and what it shows, part Gr. -/
import Derived.Test.YtchjbidfmhmmhaaGreatDoorLv
import Derived.Test.YtchjbidfmhmmhaaGreatDoorVs
import Derived.Test.YtchjbidfmhmmhaaGreatDoorVp
set_option linter.all false
namespace Go.Proofs.YtchjbidfmhmmhaaGreatDoor
open Go.Sh
set_option maxHeartbeats 4000000
set_option maxRecDepth 100000
def zfD (R:List Evt) (x:El):Bool:=!(zgR R x).isEmpty
def zdk (R:List Evt) (key:List UInt8):Bool:=zfD R (zaD key)
def zcs (R:List Evt):List (List UInt8):=((za0 R).filter fun e=>decide (e.k=1)&&zdk R e.a).map (·.a)
def zeM (R:List Evt) (x:Lk):Bool:=zfD R (zbr x)&&(zdk R x.f&&zdk R x.t)
def zeN (x y:Lk):Bool:=decide (zfg y x<0)
def zbR (R:List Evt):List Lk:=(((za0 R).filter fun e=>decide (e.k=3)&&zeM R (zbQ e)).map zbQ).foldl (fun out x=>zio (zeN x) x out) []
def zfz (R:List Evt) (e:El):Bool:=if e.k=2∨e.k=4 then zdk R e.a else if e.k=5 then zeM R (zbQ e) else false
def zcf (R:List Evt) (key:List UInt8):List (List UInt8):=((za0 R).filter fun e=>decide (e.k=2∧e.a=key)&&(zfD R e&&zfz R e)).map (·.d)
def zgQ (out:List Vl) (x:Vl):List Vl:=if out[ixP (fun y=>decide (zet y x<0)) out]?=some x then out else zio (fun y=>decide (zet y x<0)) x out
def za4 (R:List Evt) (e:El):List Vl:=if decide (e.k<4) || !zfz R e then [] else ((zgR R e).map zcK).foldl zgQ []
def ofR (o:El):Bool:=!((decide (o.k≠1)&&decide (o.k≠3)) || (decide (o.d≠[]) || (decide (o.k=1)&&(decide (o.b≠[]) || decide (o.c≠[])))))
def zih (o e:El):Bool:=(decide (o.k=1)&&(decide (e.k=4)&&decide (e.a=o.a))) || (decide (o.k=3)&&(decide (e.k=5)&&(decide (e.a=o.a)&&(decide (e.b=o.b)&&decide (e.c=o.c)))))
def zbS (R:List Evt) (o:El):List (List UInt8):=((za0 R).filter fun e=>ofR o&&(zih o e&&decide (0<(za4 R e).length))).map (·.d)
def zct (R:List Evt):List El:=(za0 R).filter (zfD R)
theorem zkV {R:List Evt} {x:El} : x∈zct R↔zfD R x=true:=by
 refine ⟨fun h=>(List.mem_filter.1 h).2,fun h=>List.mem_filter.2 ⟨?_,h⟩⟩
 rw [(zdC R).2]
 unfold zfD at h
 cases hl:zgR R x with
 | nil=>rw [hl] at h; cases h
 | cons a l =>
  have ha:a∈zgR R x:=by rw [hl]; exact List.mem_cons_self
  obtain ⟨h1,h2⟩:=List.mem_filter.1 ha
  simp only [zcQ,Bool.and_eq_true,decide_eq_true_eq] at h2
  exact ⟨a,h1,h2.1.1⟩
theorem ztU (R:List Evt):(zct R).Pairwise fun a b=>zdO a b<0:=(zdC R).1.sublist List.filter_sublist
theorem zkW {R:List Evt} (h:Row R) {x:El} (hx:x∈za0 R):zbu x.k x.a x.b x.c x.d=true:=by
 obtain ⟨e,he,rfl⟩:=((zdC R).2 x).1 hx
 exact zlB ((zgk rfl h.causl).2 e he).1
theorem ztV {x:El} (h:zbu x.k x.a x.b x.c x.d=true) (hk:x.k=1):x=zaD x.a:=by
 obtain ⟨k,a,b,c,d⟩:=x
 simp only at hk; subst hk
 simp only [zbu,if_true,Bool.and_eq_true,decide_eq_true_eq] at h
 obtain ⟨_,rfl,rfl,rfl⟩:=h
 rfl
theorem zmb {x:El} (h:zbu x.k x.a x.b x.c x.d=true) (hk:x.k=3):x=zbr (zbQ x):=by
 obtain ⟨k,a,b,c,d⟩:=x
 simp only at hk; subst hk
 simp only [zbu] at h
 simp at h
 obtain ⟨_,rfl⟩:=h
 rfl
theorem zj1 (R:List Evt) (a:List UInt8):zaS (zct R) (zaD a)=zdk R a:=by
 have:decide (zaD a∈zct R)=zfD R (zaD a):=by
  rw [Bool.eq_iff_iff,decide_eq_true_eq]; exact zkV
 simp only [zaS,this]
 simp [zdk]
theorem zj2 (R:List Evt) (x:Lk):zaS (zct R) (zbr x)=zeM R x:=by
 have h:∀ y:El,decide (y∈zct R)=zfD R y:=fun y=>by
  rw [Bool.eq_iff_iff,decide_eq_true_eq]; exact zkV
 simp only [zaS,h,zeM,zdk]
 simp
theorem zdZ (R:List Evt) (p:El→Bool):(zct R).filter p=(za0 R).filter fun e=>zfD R e&&p e:=by
 unfold zct
 rw [List.filter_filter]
 congr 1
 funext e
 rw [Bool.and_comm]
theorem zqm {R:List Evt} (h:Row R) (vals:El→List Vl):(zaG vals (zct R) (zct R)).nodes=zcs R:=by
 simp only [zaG,zcs]
 rw [zdZ]
 congr 1
 refine List.filter_congr fun e he=>?_
 by_cases hk:e.k=1
 ·have:=ztV (zkW h he) hk
  rw [zdk,← this]; simp [hk]
 ·simp [hk]
theorem znT {R:List Evt} (vals:El→List Vl) (key:List UInt8):(zaG vals (zct R) (zct R)).labels key=zcf R key:=by
 simp only [zaG,zcf]
 rw [zdZ]
 congr 1
 refine List.filter_congr fun e _=>?_
 rw [zj1]
 by_cases hk:e.k=2∧e.a=key
 ·obtain ⟨h1,rfl⟩:=hk
  simp [h1,zfz]
 ·simp [hk]
theorem zg3 {R:List Evt} (h:Row R) (vals:El→List Vl):(zaG vals (zct R) (zct R)).links=((za0 R).filter fun e=>decide (e.k=3)&&zeM R (zbQ e)).map zbQ:=by
 simp only [zaG]
 rw [zdZ]
 congr 1
 refine List.filter_congr fun e he=>?_
 by_cases hk:e.k=3
 ·have e1:=zmb (zkW h he) hk
  have e2:zaS (zct R) e=zeM R (zbQ e):=by rw [e1]; exact zj2 R _
  rw [e2]
  have e3:zfD R e=zfD R (zbr (zbQ e)):=by rw [← e1]
  simp only [hk,decide_true,Bool.true_and,e3,zeM]
  cases zfD R (zbr (zbQ e)) <;> rfl
 ·simp [hk]
theorem zkX {β:Type} {c:β→β→Int} (hc:CmpOk c) (x:β):∀ out:List β,(∀ y∈out,c y x≠0)→out.Pairwise (fun a b=>c a b<0)→(zio (fun y=>decide (c y x<0)) x out).Pairwise fun a b=>c a b<0
 | [],_,_=>List.pairwise_singleton _ _
 | y::out,hn,h=>by
  have h':=List.pairwise_cons.1 h
  rw [ziq]
  split
  ·rename_i hy
   refine List.pairwise_cons.2 ⟨fun z hz=>?_,zkX hc x out (fun z hz=>hn z (List.mem_cons_of_mem _ hz)) h'.2⟩
   rcases insP_mem.1 hz with rfl | hz
   ·exact of_decide_eq_true hy
   ·exact h'.1 z hz
  ·rename_i hy
   have h1:¬ c y x<0:=fun hh=>hy (decide_eq_true hh)
   have h2:=hn y List.mem_cons_self
   have h3:=hc.swap y x
   have hxy:c x y<0:=by omega
   refine List.pairwise_cons.2 ⟨fun z hz=>?_,h⟩
   rcases List.mem_cons.1 hz with rfl | hz
   ·exact hxy
   ·have hz':=h'.1 z hz
    have t1:=hc.trans x y z (by omega) (by omega)
    rcases Int.lt_or_eq_of_le t1 with h5 | h5
    ·exact h5
    ·exfalso
     have e:=hc.zero x z h5
     subst e
     have:=hc.swap y x
     omega
theorem ztW {β:Type} {c:β→β→Int} (hc:CmpOk c) {l l':List β} (h:l.Pairwise fun a b=>c a b<0) (h':l'.Pairwise fun a b=>c a b<0) (hm:∀ x,x∈l↔x∈l'):l=l':=by
 have nd:∀ {l:List β},(l.Pairwise fun a b=>c a b<0)→l.Nodup:=fun h=>h.imp fun {a b} hab e=>by subst e; rw [hc.self] at hab; omega
 have hp:l.Perm l':=(List.perm_ext_iff_of_nodup (nd h) (nd h')).2 hm
 exact List.Perm.eq_of_pairwise (le:=fun a b=>c a b<0) (fun a b _ _ h1 h2=>by have:=hc.swap a b; omega) h h' hp
theorem zpc {β:Type} {c:β→β→Int} (hc:CmpOk c):∀ (l out:List β),(out++l).Nodup→out.Pairwise (fun a b=>c a b<0) →
 (l.foldl (fun out x=>zio (fun y=>decide (c y x<0)) x out) out).Pairwise (fun a b=>c a b<0)∧(l.foldl (fun out x=>zio (fun y=>decide (c y x<0)) x out) out).Perm (out++l)
 | [],out,_,h=>⟨h,by simp⟩
 | x::l,out,hn,h=>by
  have hx:∀ y∈out,c y x≠0:=fun y hy hz=>by
   have e:=hc.zero y x hz
   subst e
   rw [List.nodup_append] at hn
   exact hn.2.2 y hy y List.mem_cons_self rfl
  have hp:=zuz (fun y=>decide (c y x<0)) x out
  have hp2:(zio (fun y=>decide (c y x<0)) x out++l).Perm (out++x::l):=(hp.append_right l).trans (List.perm_middle.symm)
  obtain ⟨i1,i2⟩:=zpc hc l (zio (fun y=>decide (c y x<0)) x out) (hp2.nodup_iff.2 hn) (zkX hc x out hx h)
  exact ⟨i1,i2.trans hp2⟩
theorem zqn {β:Type} {c:β→β→Int} (hc:CmpOk c) {l:List β} (hn:l.Nodup):(zba (ltC c) l).Pairwise fun a b=>c a b<0:=by
 have h1:=zc2 (lt:=ltC c) (hc.swo fun x:β=>x) l
 have h2:(zba (ltC c) l).Nodup:=(zaZ l).nodup_iff.2 hn
 refine List.Pairwise.imp₂ (fun a b h1 h2=>?_) h1 h2
 have h3:¬ c b a<0:=of_decide_eq_false h1
 have h4:=hc.swap a b
 rcases Int.lt_or_eq_of_le (show c a b≤0 by omega) with h5 | h5
 ·exact h5
 ·exact absurd (hc.zero a b h5) h2
theorem zxq {A:List El} (h:∀ e∈A,e=zbr (zbQ e)) (hn:A.Nodup):(A.map zbQ).Nodup:=by
 induction A with
 | nil=>simp
 | cons e A ih =>
  rw [List.map_cons,List.nodup_cons]
  rw [List.nodup_cons] at hn
  refine ⟨fun hm=>?_,ih (fun x hx=>h x (List.mem_cons_of_mem _ hx)) hn.2⟩
  obtain ⟨x,hx,hxe⟩:=List.mem_map.1 hm
  have e1:=h x (List.mem_cons_of_mem _ hx)
  have e2:=h e List.mem_cons_self
  rw [hxe,← e2] at e1
  exact hn.1 (e1 ▸ hx)
theorem zg4 {R:List Evt} (h:Row R) (vals:El→List Vl):zba (ltC zfg) (zaG vals (zct R) (zct R)).links=zbR R∧(zbR R).Nodup:=by
 rw [zg3 h]
 unfold zbR
 have hn0:(za0 R).Nodup:=(zdC R).1.imp fun {a b} hab e=>by subst e; rw [ordE_ok.self] at hab; omega
 have hn:(((za0 R).filter fun e=>decide (e.k=3)&&zeM R (zbQ e)).map zbQ).Nodup:=zxq (fun e he=>by
  obtain ⟨h1,h2⟩:=List.mem_filter.1 he
  simp only [Bool.and_eq_true,decide_eq_true_eq] at h2
  exact zmb (zkW h h1) h2.1) (hn0.filter _)
 generalize (((za0 R).filter fun e=>decide (e.k=3)&&zeM R (zbQ e)).map zbQ)=A at hn
 have f1:=zpc ordL_ok A [] (by simpa using hn) List.Pairwise.nil
 rw [List.nil_append] at f1
 refine ⟨ztW ordL_ok (zqn ordL_ok hn) f1.1 fun x=>?_,f1.2.nodup_iff.2 hn⟩
 rw [(zaZ A).mem_iff]
 exact f1.2.mem_iff.symm
theorem zz0 {x:Vl} : ∀ {out:List Vl},(out.Pairwise fun a b=>zet a b<0)→((zgQ out x).Pairwise fun a b=>zet a b<0)∧∀ z,z∈zgQ out x↔z=x∨z∈out:=by
 intro out h
 unfold zgQ
 split
 ·rename_i he
  refine ⟨h,fun z=>⟨.inr,fun hz=>?_⟩⟩
  rcases hz with rfl | hz
  ·exact List.mem_of_getElem? he
  ·exact hz
 ·rename_i he
  refine ⟨zkX ordV_ok x out (fun y hy hz=>?_) h,fun z=>insP_mem⟩
  have e:=ordV_ok.zero y x hz
  subst e
  obtain ⟨i,hi,hiy⟩:=List.mem_iff_getElem.1 hy
  refine he ?_
  have hix:ixP (fun z=>decide (zet z y<0)) out=i:=zmq (by omega) (fun k hk z hz=>by
   have hk':k<out.length:=by omega
   rw [List.getElem?_eq_getElem hk'] at hz
   injection hz with hz
   have:=(List.pairwise_iff_getElem.1 h) k i hk' hi hk
   rw [hz,hiy] at this
   exact decide_eq_true this) (fun z hz=>by
   rw [List.getElem?_eq_getElem hi] at hz
   injection hz with hz
   rw [← hz,hiy,ordV_ok.self]; rfl)
  rw [hix,List.getElem?_eq_getElem hi,hiy]
theorem zkY:∀ (l out:List Vl),(out.Pairwise fun a b=>zet a b<0)→((l.foldl zgQ out).Pairwise fun a b=>zet a b<0)∧∀ z,z∈l.foldl zgQ out↔z∈l∨z∈out
 | [],out,h=>⟨h,fun z=>by simp⟩
 | x::l,out,h=>by
  obtain ⟨h1,h2⟩:=zz0 (x:=x) h
  obtain ⟨h3,h4⟩:=zkY l (zgQ out x) h1
  refine ⟨h3,fun z=>?_⟩
  rw [List.foldl_cons,h4,h2,List.mem_cons]
  constructor
  ·rintro (h | h | h)
   ·exact .inl (.inr h)
   ·exact .inl (.inl h)
   ·exact .inr h
  ·rintro ((h | h) | h)
   ·exact .inr (.inl h)
   ·exact .inl h
   ·exact .inr (.inr h)
def zmc (R:List Evt) (vals:El→List Vl):Prop:=∀ x,(vals x).Pairwise (fun a b=>zet a b<0)∧∀ v,v∈vals x↔v∈(zgR R x).map zcK
theorem zpd {R:List Evt} {vals:El→List Vl} (hv:zmc R vals) (x:El):vals x=((zgR R x).map zcK).foldl zgQ []:=by
 obtain ⟨h1,h2⟩:=hv x
 obtain ⟨h3,h4⟩:=zkY ((zgR R x).map zcK) [] List.Pairwise.nil
 refine ztW ordV_ok h1 h3 fun v=>?_
 rw [h2,h4]; simp
theorem zpe {R:List Evt} {vals:El→List Vl} (hv:zmc R vals) (x:El):vals x=[]↔zfD R x=false:=by
 rw [zpd hv]
 cases hl:zgR R x with
 | nil=>simp [zfD,hl]
 | cons a l =>
  simp only [zfD,hl,List.isEmpty_cons,Bool.not_false,Bool.true_eq_false,iff_false]
  intro hc
  have:=((zkY (List.map zcK (a::l)) [] List.Pairwise.nil).2 (zcK a)).2 (.inl (by simp))
  rw [hc] at this; cases this
theorem zii {R:List Evt} {vals:El→List Vl} (hv:zmc R vals) (x:El):(zaG vals (zct R) (zct R)).values x=za4 R x:=by
 have hm:decide (x∈zct R)=zfD R x:=by rw [Bool.eq_iff_iff,decide_eq_true_eq]; exact zkV
 simp only [zaG,za4,hm,← zpd hv]
 cases hh:zfD R x with
 | false=>rw [(zpe hv x).2 hh]; simp
 | true =>
  by_cases k4:x.k=4
  ·have:zar x=zaD x.a:=by simp [zar,k4]
   rw [this,zj1]
   simp [k4,zfz]
   cases zdk R x.a <;> simp
  ·by_cases k5:x.k=5
   ·have:zar x=zbr (zbQ x):=by simp [zar,k5]
    rw [this,zj2]
    simp [k5,zfz]
    cases zeM R (zbQ x) <;> simp
   ·simp only [k4,k5,or_self,decide_false,Bool.false_and,Bool.and_false,Bool.false_eq_true,if_false]
    by_cases k2:x.k=2
    ·simp [k2]
    ·simp [zfz,k2,k4,k5]
theorem zqo {R:List Evt} (h:Row R) {vals:El→List Vl} (hv:zmc R vals) (o:El):(zaG vals (zct R) (zct R)).names o=zbS R o:=by
 simp only [zaG,zbS]
 rw [zdZ]
 congr 1
 refine List.filter_congr fun e he=>?_
 have hval:decide (0<(za4 R e).length)=(zfD R e&&(decide (e.k=4∨e.k=5)&&zaS (zct R) (zar e))):=by
  rw [← zii hv]
  have hm:decide (e∈zct R)=zfD R e:=by rw [Bool.eq_iff_iff,decide_eq_true_eq]; exact zkV
  simp only [zaG,hm]
  cases hh:zfD R e with
  | false=>simp
  | true =>
   cases decide (e.k=4∨e.k=5)&&zaS (zct R) (zar e) with
   | false=>simp
   | true =>
    have:vals e≠[]:=fun hc=>by rw [(zpe hv e).1 hc] at hh; cases hh
    simp [List.length_pos_iff,this]
 rw [hval]
 by_cases k4:e.k=4
 ·have how:zar e=zaD e.a:=by simp [zar,k4]
  by_cases ho:o=zaD e.a
  ·subst ho
   simp [k4,how,ofR,zih]
  ·have hno:¬ zar e=o:=fun hc=>ho (by rw [← hc,how])
   simp only [hno,and_false,decide_false,Bool.false_and,Bool.and_false]
   symm
   rw [Bool.eq_false_iff]
   intro hc
   simp only [Bool.and_eq_true] at hc
   obtain ⟨h1,h2,_⟩:=hc
   obtain ⟨ok,oa,ob,oc,od⟩:=o
   simp [zih,k4] at h2
   obtain ⟨rfl,h3⟩:=h2
   simp [ofR] at h1
   obtain ⟨rfl,rfl,rfl⟩:=h1
   exact ho (by rw [h3])
 ·by_cases k5:e.k=5
  ·have how:zar e=zbr (zbQ e):=by simp [zar,k5]
   by_cases ho:o=zbr (zbQ e)
   ·subst ho
    simp [k5,how,ofR,zih]
   ·have hno:¬ zar e=o:=fun hc=>ho (by rw [← hc,how])
    simp only [hno,and_false,decide_false,Bool.false_and,Bool.and_false]
    symm
    rw [Bool.eq_false_iff]
    intro hc
    simp only [Bool.and_eq_true] at hc
    obtain ⟨h1,h2,_⟩:=hc
    obtain ⟨ok,oa,ob,oc,od⟩:=o
    simp [zih,k5] at h2
    obtain ⟨rfl,h3,h4,h5⟩:=h2
    simp [ofR] at h1
    subst h1
    exact ho (by rw [← h3,← h4,← h5])
  ·simp [k4,k5,zih]
end Go.Proofs.YtchjbidfmhmmhaaGreatDoor
