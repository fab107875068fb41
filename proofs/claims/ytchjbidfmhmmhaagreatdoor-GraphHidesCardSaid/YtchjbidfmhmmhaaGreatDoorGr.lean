/- Own work: the zaG machine and what it shows, part Gr. -/
import Derived.Test.YtchjbidfmhmmhaaGreatDoorLv
import Derived.Test.YtchjbidfmhmmhaaGreatDoorVs
import Derived.Test.YtchjbidfmhmmhaaGreatDoorVp
set_option linter.all false
namespace Go.Proofs.YtchjbidfmhmmhaaGreatDoor
open Go.Sh
set_option maxHeartbeats 4000000
set_option maxRecDepth 100000
def zf8 (R:List Evt) (x:El):Bool:=!(zgn R x).isEmpty
def zdy (R:List Evt) (key:List UInt8):Bool:=zf8 R (zaw key)
def zdS (R:List Evt):List (List UInt8):=((zbg R).filter fun e=>decide (e.k=1)&&zdy R e.a).map (·.a)
def zeT (R:List Evt) (x:Lk):Bool:=zf8 R (zcl x)&&(zdy R x.f&&zdy R x.t)
def zAu (x y:Lk):Bool:=decide (zfq y x<0)
def zbD (R:List Evt):List Lk:=(((zbg R).filter fun e=>decide (e.k=3)&&zeT R (zcd e)).map zcd).foldl (fun out x=>zk9 (zAu x) x out) []
def zg3 (R:List Evt) (e:El):Bool:=if e.k=2∨e.k=4 then zdy R e.a else if e.k=5 then zeT R (zcd e) else false
def zcm (R:List Evt) (key:List UInt8):List (List UInt8):=((zbg R).filter fun e=>decide (e.k=2∧e.a=key)&&(zf8 R e&&zg3 R e)).map (·.d)
def znK (out:List Vl) (x:Vl):List Vl:=if out[ixP (fun y=>decide (zfm y x<0)) out]?=some x then out else zk9 (fun y=>decide (zfm y x<0)) x out
def zbR (R:List Evt) (e:El):List Vl:=if decide (e.k<4) || !zg3 R e then [] else ((zgn R e).map zus).foldl znK []
def ofR (o:El):Bool:=!((decide (o.k≠1)&&decide (o.k≠3)) || (decide (o.d≠[]) || (decide (o.k=1)&&(decide (o.b≠[]) || decide (o.c≠[])))))
def zxM (o e:El):Bool:=(decide (o.k=1)&&(decide (e.k=4)&&decide (e.a=o.a))) || (decide (o.k=3)&&(decide (e.k=5)&&(decide (e.a=o.a)&&(decide (e.b=o.b)&&decide (e.c=o.c)))))
def zdT (R:List Evt) (o:El):List (List UInt8):=((zbg R).filter fun e=>ofR o&&(zxM o e&&decide (0<(zbR R e).length))).map (·.d)
def zbV (R:List Evt):List El:=(zbg R).filter (zf8 R)
theorem has_mem {R:List Evt} {x:El} : x∈zbV R↔zf8 R x=true:=by
 refine ⟨fun h=>(List.mem_filter.1 h).2,fun h=>List.mem_filter.2 ⟨?_,h⟩⟩
 rw [(zbJ R).2]
 unfold zf8 at h
 cases hl:zgn R x with
 | nil=>rw [hl] at h; cases h
 | cons a l =>
  have ha:a∈zgn R x:=by rw [hl]; exact List.mem_cons_self
  obtain ⟨h1,h2⟩:=List.mem_filter.1 ha
  simp only [zgm,Bool.and_eq_true,decide_eq_true_eq] at h2
  exact ⟨a,h1,h2.1.1⟩
theorem zrR (R:List Evt):(zbV R).Pairwise fun a b=>zdu a b<0:=(zbJ R).1.sublist List.filter_sublist
theorem zhd {R:List Evt} (h:Row R) {x:El} (hx:x∈zbg R):zbl x.k x.a x.b x.c x.d=true:=by
 obtain ⟨e,he,rfl⟩:=((zbJ R).2 x).1 hx
 exact zku ((zdB rfl h.causl).2 e he).1
theorem zrS {x:El} (h:zbl x.k x.a x.b x.c x.d=true) (hk:x.k=1):x=zaw x.a:=by
 obtain ⟨k,a,b,c,d⟩:=x
 simp only at hk; subst hk
 simp only [zbl,if_true,Bool.and_eq_true,decide_eq_true_eq] at h
 obtain ⟨_,rfl,rfl,rfl⟩:=h
 rfl
theorem zkY {x:El} (h:zbl x.k x.a x.b x.c x.d=true) (hk:x.k=3):x=zcl (zcd x):=by
 obtain ⟨k,a,b,c,d⟩:=x
 simp only at hk; subst hk
 simp only [zbl] at h
 simp at h
 obtain ⟨_,rfl⟩:=h
 rfl
theorem zgj (R:List Evt) (a:List UInt8):zaK (zbV R) (zaw a)=zdy R a:=by
 have:decide (zaw a∈zbV R)=zf8 R (zaw a):=by
  rw [Bool.eq_iff_iff,decide_eq_true_eq]; exact has_mem
 simp only [zaK,this]
 simp [zdy]
theorem zi7 (R:List Evt) (x:Lk):zaK (zbV R) (zcl x)=zeT R x:=by
 have h:∀ y:El,decide (y∈zbV R)=zf8 R y:=fun y=>by
  rw [Bool.eq_iff_iff,decide_eq_true_eq]; exact has_mem
 simp only [zaK,h,zeT,zdy]
 simp
theorem zdz (R:List Evt) (p:El→Bool):(zbV R).filter p=(zbg R).filter fun e=>zf8 R e&&p e:=by
 unfold zbV
 rw [List.filter_filter]
 congr 1
 funext e
 rw [Bool.and_comm]
theorem zoV {R:List Evt} (h:Row R) (vals:El→List Vl):(zaD vals (zbV R) (zbV R)).nodes=zdS R:=by
 simp only [zaD,zdS]
 rw [zdz]
 congr 1
 refine List.filter_congr fun e he=>?_
 by_cases hk:e.k=1
 ·have:=zrS (zhd h he) hk
  rw [zdy,← this]; simp [hk]
 ·simp [hk]
theorem ze6 {R:List Evt} (vals:El→List Vl) (key:List UInt8):(zaD vals (zbV R) (zbV R)).labels key=zcm R key:=by
 simp only [zaD,zcm]
 rw [zdz]
 congr 1
 refine List.filter_congr fun e _=>?_
 rw [zgj]
 by_cases hk:e.k=2∧e.a=key
 ·obtain ⟨h1,rfl⟩:=hk
  simp [h1,zg3]
 ·simp [hk]
theorem zgk {R:List Evt} (h:Row R) (vals:El→List Vl):(zaD vals (zbV R) (zbV R)).links=((zbg R).filter fun e=>decide (e.k=3)&&zeT R (zcd e)).map zcd:=by
 simp only [zaD]
 rw [zdz]
 congr 1
 refine List.filter_congr fun e he=>?_
 by_cases hk:e.k=3
 ·have e1:=zkY (zhd h he) hk
  have e2:zaK (zbV R) e=zeT R (zcd e):=by rw [e1]; exact zi7 R _
  rw [e2]
  have e3:zf8 R e=zf8 R (zcl (zcd e)):=by rw [← e1]
  simp only [hk,decide_true,Bool.true_and,e3,zeT]
  cases zf8 R (zcl (zcd e)) <;> rfl
 ·simp [hk]
theorem zjY {β:Type} {c:β→β→Int} (hc:CmpOk c) (x:β):∀ out:List β,(∀ y∈out,c y x≠0)→out.Pairwise (fun a b=>c a b<0)→(zk9 (fun y=>decide (c y x<0)) x out).Pairwise fun a b=>c a b<0
 | [],_,_=>List.pairwise_singleton _ _
 | y::out,hn,h=>by
  have h':=List.pairwise_cons.1 h
  rw [zhH]
  split
  ·rename_i hy
   refine List.pairwise_cons.2 ⟨fun z hz=>?_,zjY hc x out (fun z hz=>hn z (List.mem_cons_of_mem _ hz)) h'.2⟩
   rcases insP_mem.1 hz with rfl | hz
   ·exact of_decide_eq_true hy
   ·exact h'.1 z hz
  ·rename_i hy
   have h1:¬ c y x<0:=fun hh=>hy (decide_eq_true hh)
   have h2:=hn y List.mem_cons_self
   have h3:=hc.swap y x
   have hxy:c x y<0:=by omega
   refine List.pairwise_cons.2 ⟨fun z hz=>?_,h⟩
   rcases List.mem_cons.1 hz with rfl | hz
   ·exact hxy
   ·have hz':=h'.1 z hz
    have t1:=hc.trans x y z (by omega) (by omega)
    rcases Int.lt_or_eq_of_le t1 with h5 | h5
    ·exact h5
    ·exfalso
     have e:=hc.zero x z h5
     subst e
     have:=hc.swap y x
     omega
theorem zmu {β:Type} {c:β→β→Int} (hc:CmpOk c) {l l':List β} (h:l.Pairwise fun a b=>c a b<0) (h':l'.Pairwise fun a b=>c a b<0) (hm:∀ x,x∈l↔x∈l'):l=l':=by
 have nd:∀ {l:List β},(l.Pairwise fun a b=>c a b<0)→l.Nodup:=fun h=>h.imp fun {a b} hab e=>by subst e; rw [hc.self] at hab; omega
 have hp:l.Perm l':=(List.perm_ext_iff_of_nodup (nd h) (nd h')).2 hm
 exact List.Perm.eq_of_pairwise (le:=fun a b=>c a b<0) (fun a b _ _ h1 h2=>by have:=hc.swap a b; omega) h h' hp
theorem znL {β:Type} {c:β→β→Int} (hc:CmpOk c):∀ (l out:List β),(out++l).Nodup→out.Pairwise (fun a b=>c a b<0) →
 (l.foldl (fun out x=>zk9 (fun y=>decide (c y x<0)) x out) out).Pairwise (fun a b=>c a b<0)∧(l.foldl (fun out x=>zk9 (fun y=>decide (c y x<0)) x out) out).Perm (out++l)
 | [],out,_,h=>⟨h,by simp⟩
 | x::l,out,hn,h=>by
  have hx:∀ y∈out,c y x≠0:=fun y hy hz=>by
   have e:=hc.zero y x hz
   subst e
   rw [List.nodup_append] at hn
   exact hn.2.2 y hy y List.mem_cons_self rfl
  have hp:=zsm (fun y=>decide (c y x<0)) x out
  have hp2:(zk9 (fun y=>decide (c y x<0)) x out++l).Perm (out++x::l):=(hp.append_right l).trans (List.perm_middle.symm)
  obtain ⟨i1,i2⟩:=znL hc l (zk9 (fun y=>decide (c y x<0)) x out) (hp2.nodup_iff.2 hn) (zjY hc x out hx h)
  exact ⟨i1,i2.trans hp2⟩
theorem zoW {β:Type} {c:β→β→Int} (hc:CmpOk c) {l:List β} (hn:l.Nodup):(za3 (ltC c) l).Pairwise fun a b=>c a b<0:=by
 have h1:=zcK (lt:=ltC c) (hc.swo fun x:β=>x) l
 have h2:(za3 (ltC c) l).Nodup:=(zaW l).nodup_iff.2 hn
 refine List.Pairwise.imp₂ (fun a b h1 h2=>?_) h1 h2
 have h3:¬ c b a<0:=of_decide_eq_false h1
 have h4:=hc.swap a b
 rcases Int.lt_or_eq_of_le (show c a b≤0 by omega) with h5 | h5
 ·exact h5
 ·exact absurd (hc.zero a b h5) h2
theorem zvk {A:List El} (h:∀ e∈A,e=zcl (zcd e)) (hn:A.Nodup):(A.map zcd).Nodup:=by
 induction A with
 | nil=>simp
 | cons e A ih =>
  rw [List.map_cons,List.nodup_cons]
  rw [List.nodup_cons] at hn
  refine ⟨fun hm=>?_,ih (fun x hx=>h x (List.mem_cons_of_mem _ hx)) hn.2⟩
  obtain ⟨x,hx,hxe⟩:=List.mem_map.1 hm
  have e1:=h x (List.mem_cons_of_mem _ hx)
  have e2:=h e List.mem_cons_self
  rw [hxe,← e2] at e1
  exact hn.1 (e1 ▸ hx)
theorem zgl {R:List Evt} (h:Row R) (vals:El→List Vl):za3 (ltC zfq) (zaD vals (zbV R) (zbV R)).links=zbD R∧(zbD R).Nodup:=by
 rw [zgk h]
 unfold zbD
 have hn0:(zbg R).Nodup:=(zbJ R).1.imp fun {a b} hab e=>by subst e; rw [ordE_ok.self] at hab; omega
 have hn:(((zbg R).filter fun e=>decide (e.k=3)&&zeT R (zcd e)).map zcd).Nodup:=zvk (fun e he=>by
  obtain ⟨h1,h2⟩:=List.mem_filter.1 he
  simp only [Bool.and_eq_true,decide_eq_true_eq] at h2
  exact zkY (zhd h h1) h2.1) (hn0.filter _)
 generalize (((zbg R).filter fun e=>decide (e.k=3)&&zeT R (zcd e)).map zcd)=A at hn
 have f1:=znL ordL_ok A [] (by simpa using hn) List.Pairwise.nil
 rw [List.nil_append] at f1
 refine ⟨zmu ordL_ok (zoW ordL_ok hn) f1.1 fun x=>?_,f1.2.nodup_iff.2 hn⟩
 rw [(zaW A).mem_iff]
 exact f1.2.mem_iff.symm
theorem zxN {x:Vl} : ∀ {out:List Vl},(out.Pairwise fun a b=>zfm a b<0)→((znK out x).Pairwise fun a b=>zfm a b<0)∧∀ z,z∈znK out x↔z=x∨z∈out:=by
 intro out h
 unfold znK
 split
 ·rename_i he
  refine ⟨h,fun z=>⟨.inr,fun hz=>?_⟩⟩
  rcases hz with rfl | hz
  ·exact List.mem_of_getElem? he
  ·exact hz
 ·rename_i he
  refine ⟨zjY ordV_ok x out (fun y hy hz=>?_) h,fun z=>insP_mem⟩
  have e:=ordV_ok.zero y x hz
  subst e
  obtain ⟨i,hi,hiy⟩:=List.mem_iff_getElem.1 hy
  refine he ?_
  have hix:ixP (fun z=>decide (zfm z y<0)) out=i:=zAE (by omega) (fun k hk z hz=>by
   have hk':k<out.length:=by omega
   rw [List.getElem?_eq_getElem hk'] at hz
   injection hz with hz
   have:=(List.pairwise_iff_getElem.1 h) k i hk' hi hk
   rw [hz,hiy] at this
   exact decide_eq_true this) (fun z hz=>by
   rw [List.getElem?_eq_getElem hi] at hz
   injection hz with hz
   rw [← hz,hiy,ordV_ok.self]; rfl)
  rw [hix,List.getElem?_eq_getElem hi,hiy]
theorem zjZ:∀ (l out:List Vl),(out.Pairwise fun a b=>zfm a b<0)→((l.foldl znK out).Pairwise fun a b=>zfm a b<0)∧∀ z,z∈l.foldl znK out↔z∈l∨z∈out
 | [],out,h=>⟨h,fun z=>by simp⟩
 | x::l,out,h=>by
  obtain ⟨h1,h2⟩:=zxN (x:=x) h
  obtain ⟨h3,h4⟩:=zjZ l (znK out x) h1
  refine ⟨h3,fun z=>?_⟩
  rw [List.foldl_cons,h4,h2,List.mem_cons]
  constructor
  ·rintro (h | h | h)
   ·exact .inl (.inr h)
   ·exact .inl (.inl h)
   ·exact .inr h
  ·rintro ((h | h) | h)
   ·exact .inr (.inl h)
   ·exact .inl h
   ·exact .inr (.inr h)
def zkZ (R:List Evt) (vals:El→List Vl):Prop:=∀ x,(vals x).Pairwise (fun a b=>zfm a b<0)∧∀ v,v∈vals x↔v∈(zgn R x).map zus
theorem znM {R:List Evt} {vals:El→List Vl} (hv:zkZ R vals) (x:El):vals x=((zgn R x).map zus).foldl znK []:=by
 obtain ⟨h1,h2⟩:=hv x
 obtain ⟨h3,h4⟩:=zjZ ((zgn R x).map zus) [] List.Pairwise.nil
 refine zmu ordV_ok h1 h3 fun v=>?_
 rw [h2,h4]; simp
theorem znN {R:List Evt} {vals:El→List Vl} (hv:zkZ R vals) (x:El):vals x=[]↔zf8 R x=false:=by
 rw [znM hv]
 cases hl:zgn R x with
 | nil=>simp [zf8,hl]
 | cons a l =>
  simp only [zf8,hl,List.isEmpty_cons,Bool.not_false,Bool.true_eq_false,iff_false]
  intro hc
  have:=((zjZ (List.map zus (a::l)) [] List.Pairwise.nil).2 (zus a)).2 (.inl (by simp))
  rw [hc] at this; cases this
theorem zhz {R:List Evt} {vals:El→List Vl} (hv:zkZ R vals) (x:El):(zaD vals (zbV R) (zbV R)).values x=zbR R x:=by
 have hm:decide (x∈zbV R)=zf8 R x:=by rw [Bool.eq_iff_iff,decide_eq_true_eq]; exact has_mem
 simp only [zaD,zbR,hm,← znM hv]
 cases hh:zf8 R x with
 | false=>rw [(znN hv x).2 hh]; simp
 | true =>
  by_cases k4:x.k=4
  ·have:zan x=zaw x.a:=by simp [zan,k4]
   rw [this,zgj]
   simp [k4,zg3]
   cases zdy R x.a <;> simp
  ·by_cases k5:x.k=5
   ·have:zan x=zcl (zcd x):=by simp [zan,k5]
    rw [this,zi7]
    simp [k5,zg3]
    cases zeT R (zcd x) <;> simp
   ·simp only [k4,k5,or_self,decide_false,Bool.false_and,Bool.and_false,Bool.false_eq_true,if_false]
    by_cases k2:x.k=2
    ·simp [k2]
    ·simp [zg3,k2,k4,k5]
theorem zoX {R:List Evt} (h:Row R) {vals:El→List Vl} (hv:zkZ R vals) (o:El):(zaD vals (zbV R) (zbV R)).names o=zdT R o:=by
 simp only [zaD,zdT]
 rw [zdz]
 congr 1
 refine List.filter_congr fun e he=>?_
 have hval:decide (0<(zbR R e).length)=(zf8 R e&&(decide (e.k=4∨e.k=5)&&zaK (zbV R) (zan e))):=by
  rw [← zhz hv]
  have hm:decide (e∈zbV R)=zf8 R e:=by rw [Bool.eq_iff_iff,decide_eq_true_eq]; exact has_mem
  simp only [zaD,hm]
  cases hh:zf8 R e with
  | false=>simp
  | true =>
   cases decide (e.k=4∨e.k=5)&&zaK (zbV R) (zan e) with
   | false=>simp
   | true =>
    have:vals e≠[]:=fun hc=>by rw [(znN hv e).1 hc] at hh; cases hh
    simp [List.length_pos_iff,this]
 rw [hval]
 by_cases k4:e.k=4
 ·have how:zan e=zaw e.a:=by simp [zan,k4]
  by_cases ho:o=zaw e.a
  ·subst ho
   simp [k4,how,ofR,zxM]
  ·have hno:¬ zan e=o:=fun hc=>ho (by rw [← hc,how])
   simp only [hno,and_false,decide_false,Bool.false_and,Bool.and_false]
   symm
   rw [Bool.eq_false_iff]
   intro hc
   simp only [Bool.and_eq_true] at hc
   obtain ⟨h1,h2,_⟩:=hc
   obtain ⟨ok,oa,ob,oc,od⟩:=o
   simp [zxM,k4] at h2
   obtain ⟨rfl,h3⟩:=h2
   simp [ofR] at h1
   obtain ⟨rfl,rfl,rfl⟩:=h1
   exact ho (by rw [h3])
 ·by_cases k5:e.k=5
  ·have how:zan e=zcl (zcd e):=by simp [zan,k5]
   by_cases ho:o=zcl (zcd e)
   ·subst ho
    simp [k5,how,ofR,zxM]
   ·have hno:¬ zan e=o:=fun hc=>ho (by rw [← hc,how])
    simp only [hno,and_false,decide_false,Bool.false_and,Bool.and_false]
    symm
    rw [Bool.eq_false_iff]
    intro hc
    simp only [Bool.and_eq_true] at hc
    obtain ⟨h1,h2,_⟩:=hc
    obtain ⟨ok,oa,ob,oc,od⟩:=o
    simp [zxM,k5] at h2
    obtain ⟨rfl,h3,h4,h5⟩:=h2
    simp [ofR] at h1
    subst h1
    exact ho (by rw [← h3,← h4,← h5])
  ·simp [k4,k5,zxM]
end Go.Proofs.YtchjbidfmhmmhaaGreatDoor
