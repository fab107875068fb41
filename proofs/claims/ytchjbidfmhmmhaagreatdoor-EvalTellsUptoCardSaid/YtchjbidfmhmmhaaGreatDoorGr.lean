/- Own work: the zaM machine and what it shows, part Gr. -/
import Derived.Test.YtchjbidfmhmmhaaGreatDoorLv
import Derived.Test.YtchjbidfmhmmhaaGreatDoorVs
import Derived.Test.YtchjbidfmhmmhaaGreatDoorVp
set_option linter.all false
namespace Go.Proofs.YtchjbidfmhmmhaaGreatDoor
open Go.Sh
set_option maxHeartbeats 4000000
set_option maxRecDepth 100000
def zjE (R:List Evt) (x:El):Bool:=!(zg6 R x).isEmpty
def zjF (R:List Evt) (key:List UInt8):Bool:=zjE R (zbg key)
def zhT (R:List Evt) (x:Lk):Bool:=zjE R (zgd x)&&(zjF R x.f&&zjF R x.t)
def zEo (x y:Lk):Bool:=decide (zgg y x<0)
def zgr (R:List Evt):List Lk:=(((zdj R).filter fun e=>decide (e.k=3)&&zhT R (zcG e)).map zcG).foldl (fun out x=>zlF (zEo x) x out) []
def zoa (R:List Evt) (e:El):Bool:=if e.k=2∨e.k=4 then zjF R e.a else if e.k=5 then zhT R (zcG e) else false
def zg5 (out:List Vl) (x:Vl):List Vl:=if out[ixP (fun y=>decide (zdr y x<0)) out]?=some x then out else zlF (fun y=>decide (zdr y x<0)) x out
def zdz (R:List Evt) (e:El):List Vl:=if decide (e.k<4) || !zoa R e then [] else ((zg6 R e).map zc2).foldl zg5 []
def zdI (R:List Evt):List El:=(zdj R).filter (zjE R)
theorem zob {R:List Evt} {x:El} : x∈zdI R↔zjE R x=true:=by
 refine ⟨fun h=>(List.mem_filter.1 h).2,fun h=>List.mem_filter.2 ⟨?_,h⟩⟩
 rw [(zeU R).2]
 unfold zjE at h
 cases hl:zg6 R x with
 | nil=>rw [hl] at h; cases h
 | cons a l =>
  have ha:a∈zg6 R x:=by rw [hl]; exact List.mem_cons_self
  obtain ⟨h1,h2⟩:=List.mem_filter.1 ha
  simp only [zcN,Bool.and_eq_true,decide_eq_true_eq] at h2
  exact ⟨a,h1,h2.1.1⟩
theorem zuk (R:List Evt):(zdI R).Pairwise fun a b=>zdU a b<0:=(zeU R).1.sublist List.filter_sublist
theorem zpD {R:List Evt} (h:Row R) {x:El} (hx:x∈zdj R):zby x.k x.a x.b x.c x.d=true:=by
 obtain ⟨e,he,rfl⟩:=((zeU R).2 x).1 hx
 exact zly ((zgv rfl h.causl).2 e he).1
theorem zmn {x:El} (h:zby x.k x.a x.b x.c x.d=true) (hk:x.k=3):x=zgd (zcG x):=by
 obtain ⟨k,a,b,c,d⟩:=x
 simp only at hk; subst hk
 simp only [zby] at h
 simp at h
 obtain ⟨_,rfl⟩:=h
 rfl
theorem zq2 (R:List Evt) (a:List UInt8):za0 (zdI R) (zbg a)=zjF R a:=by
 have:decide (zbg a∈zdI R)=zjE R (zbg a):=by
  rw [Bool.eq_iff_iff,decide_eq_true_eq]; exact zob
 simp only [za0,this]
 simp [zjF]
theorem zj7 (R:List Evt) (x:Lk):za0 (zdI R) (zgd x)=zhT R x:=by
 have h:∀ y:El,decide (y∈zdI R)=zjE R y:=fun y=>by
  rw [Bool.eq_iff_iff,decide_eq_true_eq]; exact zob
 simp only [za0,h,zhT,zjF]
 simp
theorem zoc (R:List Evt) (p:El→Bool):(zdI R).filter p=(zdj R).filter fun e=>zjE R e&&p e:=by
 unfold zdI
 rw [List.filter_filter]
 congr 1
 funext e
 rw [Bool.and_comm]
theorem zq3 {R:List Evt} (h:Row R) (vals:El→List Vl):(zaT vals (zdI R) (zdI R)).links=((zdj R).filter fun e=>decide (e.k=3)&&zhT R (zcG e)).map zcG:=by
 simp only [zaT]
 rw [zoc]
 congr 1
 refine List.filter_congr fun e he=>?_
 by_cases hk:e.k=3
 ·have e1:=zmn (zpD h he) hk
  have e2:za0 (zdI R) e=zhT R (zcG e):=by rw [e1]; exact zj7 R _
  rw [e2]
  have e3:zjE R e=zjE R (zgd (zcG e)):=by rw [← e1]
  simp only [hk,decide_true,Bool.true_and,e3,zhT]
  cases zjE R (zgd (zcG e)) <;> rfl
 ·simp [hk]
theorem zkY {β:Type} {c:β→β→Int} (hc:CmpOk c) (x:β):∀ out:List β,(∀ y∈out,c y x≠0)→out.Pairwise (fun a b=>c a b<0)→(zlF (fun y=>decide (c y x<0)) x out).Pairwise fun a b=>c a b<0
 | [],_,_=>List.pairwise_singleton _ _
 | y::out,hn,h=>by
  have h':=List.pairwise_cons.1 h
  rw [ziz]
  split
  ·rename_i hy
   refine List.pairwise_cons.2 ⟨fun z hz=>?_,zkY hc x out (fun z hz=>hn z (List.mem_cons_of_mem _ hz)) h'.2⟩
   rcases insP_mem.1 hz with rfl | hz
   ·exact of_decide_eq_true hy
   ·exact h'.1 z hz
  ·rename_i hy
   have h1:¬ c y x<0:=fun hh=>hy (decide_eq_true hh)
   have h2:=hn y List.mem_cons_self
   have h3:=hc.swap y x
   have hxy:c x y<0:=by omega
   refine List.pairwise_cons.2 ⟨fun z hz=>?_,h⟩
   rcases List.mem_cons.1 hz with rfl | hz
   ·exact hxy
   ·have hz':=h'.1 z hz
    have t1:=hc.trans x y z (by omega) (by omega)
    rcases Int.lt_or_eq_of_le t1 with h5 | h5
    ·exact h5
    ·exfalso
     have e:=hc.zero x z h5
     subst e
     have:=hc.swap y x
     omega
theorem zul {β:Type} {c:β→β→Int} (hc:CmpOk c) {l l':List β} (h:l.Pairwise fun a b=>c a b<0) (h':l'.Pairwise fun a b=>c a b<0) (hm:∀ x,x∈l↔x∈l'):l=l':=by
 have nd:∀ {l:List β},(l.Pairwise fun a b=>c a b<0)→l.Nodup:=fun h=>h.imp fun {a b} hab e=>by subst e; rw [hc.self] at hab; omega
 have hp:l.Perm l':=(List.perm_ext_iff_of_nodup (nd h) (nd h')).2 hm
 exact List.Perm.eq_of_pairwise (le:=fun a b=>c a b<0) (fun a b _ _ h1 h2=>by have:=hc.swap a b; omega) h h' hp
theorem zpE {β:Type} {c:β→β→Int} (hc:CmpOk c):∀ (l out:List β),(out++l).Nodup→out.Pairwise (fun a b=>c a b<0) →
 (l.foldl (fun out x=>zlF (fun y=>decide (c y x<0)) x out) out).Pairwise (fun a b=>c a b<0)∧(l.foldl (fun out x=>zlF (fun y=>decide (c y x<0)) x out) out).Perm (out++l)
 | [],out,_,h=>⟨h,by simp⟩
 | x::l,out,hn,h=>by
  have hx:∀ y∈out,c y x≠0:=fun y hy hz=>by
   have e:=hc.zero y x hz
   subst e
   rw [List.nodup_append] at hn
   exact hn.2.2 y hy y List.mem_cons_self rfl
  have hp:=zuK (fun y=>decide (c y x<0)) x out
  have hp2:(zlF (fun y=>decide (c y x<0)) x out++l).Perm (out++x::l):=(hp.append_right l).trans (List.perm_middle.symm)
  obtain ⟨i1,i2⟩:=zpE hc l (zlF (fun y=>decide (c y x<0)) x out) (hp2.nodup_iff.2 hn) (zkY hc x out hx h)
  exact ⟨i1,i2.trans hp2⟩
theorem zq4 {β:Type} {c:β→β→Int} (hc:CmpOk c) {l:List β} (hn:l.Nodup):(za8 (ltC c) l).Pairwise fun a b=>c a b<0:=by
 have h1:=zcZ (lt:=ltC c) (hc.swo fun x:β=>x) l
 have h2:(za8 (ltC c) l).Nodup:=(zba l).nodup_iff.2 hn
 refine List.Pairwise.imp₂ (fun a b h1 h2=>?_) h1 h2
 have h3:¬ c b a<0:=of_decide_eq_false h1
 have h4:=hc.swap a b
 rcases Int.lt_or_eq_of_le (show c a b≤0 by omega) with h5 | h5
 ·exact h5
 ·exact absurd (hc.zero a b h5) h2
theorem zyg {A:List El} (h:∀ e∈A,e=zgd (zcG e)) (hn:A.Nodup):(A.map zcG).Nodup:=by
 induction A with
 | nil=>simp
 | cons e A ih =>
  rw [List.map_cons,List.nodup_cons]
  rw [List.nodup_cons] at hn
  refine ⟨fun hm=>?_,ih (fun x hx=>h x (List.mem_cons_of_mem _ hx)) hn.2⟩
  obtain ⟨x,hx,hxe⟩:=List.mem_map.1 hm
  have e1:=h x (List.mem_cons_of_mem _ hx)
  have e2:=h e List.mem_cons_self
  rw [hxe,← e2] at e1
  exact hn.1 (e1 ▸ hx)
theorem zq5 {R:List Evt} (h:Row R) (vals:El→List Vl):za8 (ltC zgg) (zaT vals (zdI R) (zdI R)).links=zgr R∧(zgr R).Nodup:=by
 rw [zq3 h]
 unfold zgr
 have hn0:(zdj R).Nodup:=(zeU R).1.imp fun {a b} hab e=>by subst e; rw [ordE_ok.self] at hab; omega
 have hn:(((zdj R).filter fun e=>decide (e.k=3)&&zhT R (zcG e)).map zcG).Nodup:=zyg (fun e he=>by
  obtain ⟨h1,h2⟩:=List.mem_filter.1 he
  simp only [Bool.and_eq_true,decide_eq_true_eq] at h2
  exact zmn (zpD h h1) h2.1) (hn0.filter _)
 generalize (((zdj R).filter fun e=>decide (e.k=3)&&zhT R (zcG e)).map zcG)=A at hn
 have f1:=zpE ordL_ok A [] (by simpa using hn) List.Pairwise.nil
 rw [List.nil_append] at f1
 refine ⟨zul ordL_ok (zq4 ordL_ok hn) f1.1 fun x=>?_,f1.2.nodup_iff.2 hn⟩
 rw [(zba A).mem_iff]
 exact f1.2.mem_iff.symm
theorem zAU {x:Vl} : ∀ {out:List Vl},(out.Pairwise fun a b=>zdr a b<0)→((zg5 out x).Pairwise fun a b=>zdr a b<0)∧∀ z,z∈zg5 out x↔z=x∨z∈out:=by
 intro out h
 unfold zg5
 split
 ·rename_i he
  refine ⟨h,fun z=>⟨.inr,fun hz=>?_⟩⟩
  rcases hz with rfl | hz
  ·exact List.mem_of_getElem? he
  ·exact hz
 ·rename_i he
  refine ⟨zkY ordV_ok x out (fun y hy hz=>?_) h,fun z=>insP_mem⟩
  have e:=ordV_ok.zero y x hz
  subst e
  obtain ⟨i,hi,hiy⟩:=List.mem_iff_getElem.1 hy
  refine he ?_
  have hix:ixP (fun z=>decide (zdr z y<0)) out=i:=zyq (by omega) (fun k hk z hz=>by
   have hk':k<out.length:=by omega
   rw [List.getElem?_eq_getElem hk'] at hz
   injection hz with hz
   have:=(List.pairwise_iff_getElem.1 h) k i hk' hi hk
   rw [hz,hiy] at this
   exact decide_eq_true this) (fun z hz=>by
   rw [List.getElem?_eq_getElem hi] at hz
   injection hz with hz
   rw [← hz,hiy,ordV_ok.self]; rfl)
  rw [hix,List.getElem?_eq_getElem hi,hiy]
theorem zkZ:∀ (l out:List Vl),(out.Pairwise fun a b=>zdr a b<0)→((l.foldl zg5 out).Pairwise fun a b=>zdr a b<0)∧∀ z,z∈l.foldl zg5 out↔z∈l∨z∈out
 | [],out,h=>⟨h,fun z=>by simp⟩
 | x::l,out,h=>by
  obtain ⟨h1,h2⟩:=zAU (x:=x) h
  obtain ⟨h3,h4⟩:=zkZ l (zg5 out x) h1
  refine ⟨h3,fun z=>?_⟩
  rw [List.foldl_cons,h4,h2,List.mem_cons]
  constructor
  ·rintro (h | h | h)
   ·exact .inl (.inr h)
   ·exact .inl (.inl h)
   ·exact .inr h
  ·rintro ((h | h) | h)
   ·exact .inr (.inl h)
   ·exact .inl h
   ·exact .inr (.inr h)
def zpF (R:List Evt) (vals:El→List Vl):Prop:=∀ x,(vals x).Pairwise (fun a b=>zdr a b<0)∧∀ v,v∈vals x↔v∈(zg6 R x).map zc2
theorem zpG {R:List Evt} {vals:El→List Vl} (hv:zpF R vals) (x:El):vals x=((zg6 R x).map zc2).foldl zg5 []:=by
 obtain ⟨h1,h2⟩:=hv x
 obtain ⟨h3,h4⟩:=zkZ ((zg6 R x).map zc2) [] List.Pairwise.nil
 refine zul ordV_ok h1 h3 fun v=>?_
 rw [h2,h4]; simp
theorem zyh {R:List Evt} {vals:El→List Vl} (hv:zpF R vals) (x:El):vals x=[]↔zjE R x=false:=by
 rw [zpG hv]
 cases hl:zg6 R x with
 | nil=>simp [zjE,hl]
 | cons a l =>
  simp only [zjE,hl,List.isEmpty_cons,Bool.not_false,Bool.true_eq_false,iff_false]
  intro hc
  have:=((zkZ (List.map zc2 (a::l)) [] List.Pairwise.nil).2 (zc2 a)).2 (.inl (by simp))
  rw [hc] at this; cases this
theorem ziu {R:List Evt} {vals:El→List Vl} (hv:zpF R vals) (x:El):(zaT vals (zdI R) (zdI R)).values x=zdz R x:=by
 have hm:decide (x∈zdI R)=zjE R x:=by rw [Bool.eq_iff_iff,decide_eq_true_eq]; exact zob
 simp only [zaT,zdz,hm,← zpG hv]
 cases hh:zjE R x with
 | false=>rw [(zyh hv x).2 hh]; simp
 | true =>
  by_cases k4:x.k=4
  ·have:zax x=zbg x.a:=by simp [zax,k4]
   rw [this,zq2]
   simp [k4,zoa]
   cases zjF R x.a <;> simp
  ·by_cases k5:x.k=5
   ·have:zax x=zgd (zcG x):=by simp [zax,k5]
    rw [this,zj7]
    simp [k5,zoa]
    cases zhT R (zcG x) <;> simp
   ·simp only [k4,k5,or_self,decide_false,Bool.false_and,Bool.and_false,Bool.false_eq_true,if_false]
    by_cases k2:x.k=2
    ·simp [k2]
    ·simp [zoa,k2,k4,k5]
end Go.Proofs.YtchjbidfmhmmhaaGreatDoor
