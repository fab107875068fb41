/- Own work: the zaN machine and what it shows, part Gr. -/
import Derived.Test.YtchjbidfmhmmhaaGreatDoorLv
import Derived.Test.YtchjbidfmhmmhaaGreatDoorVs
import Derived.Test.YtchjbidfmhmmhaaGreatDoorVp
set_option linter.all false
namespace Go.Proofs.YtchjbidfmhmmhaaGreatDoor
open Go.Sh
set_option maxHeartbeats 4000000
set_option maxRecDepth 100000
def zey (R:List Evt) (x:El):Bool:=!(zgg R x).isEmpty
def zg9 (R:List Evt) (key:List UInt8):Bool:=zey R (zaT key)
def zfC (R:List Evt) (x:Lk):Bool:=zey R (zcM x)&&(zg9 R x.f&&zg9 R x.t)
def zAA (x y:Lk):Bool:=decide (zfs y x<0)
def zfD (R:List Evt):List Lk:=(((zbd R).filter fun e=>decide (e.k=3)&&zfC R (zch e)).map zch).foldl (fun out x=>zjY (zAA x) x out) []
def zeW (R:List Evt) (e:El):Bool:=if e.k=2∨e.k=4 then zg9 R e.a else if e.k=5 then zfC R (zch e) else false
def zef (R:List Evt) (key:List UInt8):List (List UInt8):=((zbd R).filter fun e=>decide (e.k=2∧e.a=key)&&(zey R e&&zeW R e)).map (·.d)
def zgR (out:List Vl) (x:Vl):List Vl:=if out[ixP (fun y=>decide (zdZ y x<0)) out]?=some x then out else zjY (fun y=>decide (zdZ y x<0)) x out
def zbE (R:List Evt) (e:El):List Vl:=if decide (e.k<4) || !zeW R e then [] else ((zgg R e).map zcI).foldl zgR []
def ofR (o:El):Bool:=!((decide (o.k≠1)&&decide (o.k≠3)) || (decide (o.d≠[]) || (decide (o.k=1)&&(decide (o.b≠[]) || decide (o.c≠[])))))
def zhB (o e:El):Bool:=(decide (o.k=1)&&(decide (e.k=4)&&decide (e.a=o.a))) || (decide (o.k=3)&&(decide (e.k=5)&&(decide (e.a=o.a)&&(decide (e.b=o.b)&&decide (e.c=o.c)))))
def zgS (R:List Evt) (o:El):List (List UInt8):=((zbd R).filter fun e=>ofR o&&(zhB o e&&decide (0<(zbE R e).length))).map (·.d)
def zbT (R:List Evt):List El:=(zbd R).filter (zey R)
theorem zhC {R:List Evt} {x:El} : x∈zbT R↔zey R x=true:=by
  refine ⟨fun h=>(List.mem_filter.1 h).2,fun h=>List.mem_filter.2 ⟨?_,h⟩⟩
  rw [(zeg R).2]
  unfold zey at h
  cases hl:zgg R x with
  | nil=>rw [hl] at h; cases h
  | cons a l =>
    have ha:a∈zgg R x:=by rw [hl]; exact List.mem_cons_self
    obtain ⟨h1,h2⟩:=List.mem_filter.1 ha
    simp only [zcJ,Bool.and_eq_true,decide_eq_true_eq] at h2
    exact ⟨a,h1,h2.1.1⟩
theorem zrS (R:List Evt):(zbT R).Pairwise fun a b=>zdo a b<0:=(zeg R).1.sublist List.filter_sublist
theorem znJ {R:List Evt} (h:Row R) {x:El} (hx:x∈zbd R):zbr x.k x.a x.b x.c x.d=true:=by
  obtain ⟨e,he,rfl⟩:=((zeg R).2 x).1 hx
  exact zko ((zhj rfl h.causl).2 e he).1
theorem zkW {x:El} (h:zbr x.k x.a x.b x.c x.d=true) (hk:x.k=3):x=zcM (zch x):=by
  obtain ⟨k,a,b,c,d⟩:=x
  simp only at hk; subst hk
  simp only [zbr] at h
  simp at h
  obtain ⟨_,rfl⟩:=h
  rfl
theorem zgs (R:List Evt) (a:List UInt8):zaH (zbT R) (zaT a)=zg9 R a:=by
  have:decide (zaT a∈zbT R)=zey R (zaT a):=by
    rw [Bool.eq_iff_iff,decide_eq_true_eq]; exact zhC
  simp only [zaH,this]
  simp [zg9]
theorem zgt (R:List Evt) (x:Lk):zaH (zbT R) (zcM x)=zfC R x:=by
  have h:∀ y:El,decide (y∈zbT R)=zey R y:=fun y=>by
    rw [Bool.eq_iff_iff,decide_eq_true_eq]; exact zhC
  simp only [zaH,h,zfC,zg9]
  simp
theorem ze9 (R:List Evt) (p:El→Bool):(zbT R).filter p=(zbd R).filter fun e=>zey R e&&p e:=by
  unfold zbT
  rw [List.filter_filter]
  congr 1
  funext e
  rw [Bool.and_comm]
theorem zmv {R:List Evt} (vals:El→List Vl) (key:List UInt8):(zaG vals (zbT R) (zbT R)).labels key=zef R key:=by
  simp only [zaG,zef]
  rw [ze9]
  congr 1
  refine List.filter_congr fun e _=>?_
  rw [zgs]
  by_cases hk:e.k=2∧e.a=key
  · obtain ⟨h1,rfl⟩:=hk
    simp [h1,zeW]
  · simp [hk]
theorem zoT {R:List Evt} (h:Row R) (vals:El→List Vl):(zaG vals (zbT R) (zbT R)).links=((zbd R).filter fun e=>decide (e.k=3)&&zfC R (zch e)).map zch:=by
  simp only [zaG]
  rw [ze9]
  congr 1
  refine List.filter_congr fun e he=>?_
  by_cases hk:e.k=3
  · have e1:=zkW (znJ h he) hk
    have e2:zaH (zbT R) e=zfC R (zch e):=by rw [e1]; exact zgt R _
    rw [e2]
    have e3:zey R e=zey R (zcM (zch e)):=by rw [← e1]
    simp only [hk,decide_true,Bool.true_and,e3,zfC]
    cases zey R (zcM (zch e)) <;> rfl
  · simp [hk]
theorem zjO {β:Type} {c:β→β→Int} (hc:CmpOk c) (x:β):∀ out:List β,(∀ y∈out,c y x≠0)→out.Pairwise (fun a b=>c a b<0)→(zjY (fun y=>decide (c y x<0)) x out).Pairwise fun a b=>c a b<0
  | [],_,_=>List.pairwise_singleton _ _
  | y::out,hn,h=>by
    have h':=List.pairwise_cons.1 h
    rw [zhI]
    split
    · rename_i hy
      refine List.pairwise_cons.2 ⟨fun z hz=>?_,zjO hc x out (fun z hz=>hn z (List.mem_cons_of_mem _ hz)) h'.2⟩
      rcases insP_mem.1 hz with rfl | hz
      · exact of_decide_eq_true hy
      · exact h'.1 z hz
    · rename_i hy
      have h1:¬ c y x<0:=fun hh=>hy (decide_eq_true hh)
      have h2:=hn y List.mem_cons_self
      have h3:=hc.swap y x
      have hxy:c x y<0:=by omega
      refine List.pairwise_cons.2 ⟨fun z hz=>?_,h⟩
      rcases List.mem_cons.1 hz with rfl | hz
      · exact hxy
      · have hz':=h'.1 z hz
        have t1:=hc.trans x y z (by omega) (by omega)
        rcases Int.lt_or_eq_of_le t1 with h5 | h5
        · exact h5
        · exfalso
          have e:=hc.zero x z h5
          subst e
          have:=hc.swap y x
          omega
theorem zrT {β:Type} {c:β→β→Int} (hc:CmpOk c) {l l':List β} (h:l.Pairwise fun a b=>c a b<0) (h':l'.Pairwise fun a b=>c a b<0) (hm:∀ x,x∈l↔x∈l'):l=l':=by
  have nd:∀ {l:List β},(l.Pairwise fun a b=>c a b<0)→l.Nodup:=fun h=>h.imp fun {a b} hab e=>by subst e; rw [hc.self] at hab; omega
  have hp:l.Perm l':=(List.perm_ext_iff_of_nodup (nd h) (nd h')).2 hm
  exact List.Perm.eq_of_pairwise (le:=fun a b=>c a b<0) (fun a b _ _ h1 h2=>by have:=hc.swap a b; omega) h h' hp
theorem znK {β:Type} {c:β→β→Int} (hc:CmpOk c):∀ (l out:List β),(out++l).Nodup→out.Pairwise (fun a b=>c a b<0) →
    (l.foldl (fun out x=>zjY (fun y=>decide (c y x<0)) x out) out).Pairwise (fun a b=>c a b<0)∧(l.foldl (fun out x=>zjY (fun y=>decide (c y x<0)) x out) out).Perm (out++l)
  | [],out,_,h=>⟨h,by simp⟩
  | x::l,out,hn,h=>by
    have hx:∀ y∈out,c y x≠0:=fun y hy hz=>by
      have e:=hc.zero y x hz
      subst e
      rw [List.nodup_append] at hn
      exact hn.2.2 y hy y List.mem_cons_self rfl
    have hp:=zsl (fun y=>decide (c y x<0)) x out
    have hp2:(zjY (fun y=>decide (c y x<0)) x out++l).Perm (out++x::l):=(hp.append_right l).trans (List.perm_middle.symm)
    obtain ⟨i1,i2⟩:=znK hc l (zjY (fun y=>decide (c y x<0)) x out) (hp2.nodup_iff.2 hn) (zjO hc x out hx h)
    exact ⟨i1,i2.trans hp2⟩
theorem zoU {β:Type} {c:β→β→Int} (hc:CmpOk c) {l:List β} (hn:l.Nodup):(za0 (ltC c) l).Pairwise fun a b=>c a b<0:=by
  have h1:=zcH (lt:=ltC c) (hc.swo fun x:β=>x) l
  have h2:(za0 (ltC c) l).Nodup:=(za3 l).nodup_iff.2 hn
  refine List.Pairwise.imp₂ (fun a b h1 h2=>?_) h1 h2
  have h3:¬ c b a<0:=of_decide_eq_false h1
  have h4:=hc.swap a b
  rcases Int.lt_or_eq_of_le (show c a b≤0 by omega) with h5 | h5
  · exact h5
  · exact absurd (hc.zero a b h5) h2
theorem zvh {A:List El} (h:∀ e∈A,e=zcM (zch e)) (hn:A.Nodup):(A.map zch).Nodup:=by
  induction A with
  | nil=>simp
  | cons e A ih =>
    rw [List.map_cons,List.nodup_cons]
    rw [List.nodup_cons] at hn
    refine ⟨fun hm=>?_,ih (fun x hx=>h x (List.mem_cons_of_mem _ hx)) hn.2⟩
    obtain ⟨x,hx,hxe⟩:=List.mem_map.1 hm
    have e1:=h x (List.mem_cons_of_mem _ hx)
    have e2:=h e List.mem_cons_self
    rw [hxe,← e2] at e1
    exact hn.1 (e1 ▸ hx)
theorem zoV {R:List Evt} (h:Row R) (vals:El→List Vl):za0 (ltC zfs) (zaG vals (zbT R) (zbT R)).links=zfD R∧(zfD R).Nodup:=by
  rw [zoT h]
  unfold zfD
  have hn0:(zbd R).Nodup:=(zeg R).1.imp fun {a b} hab e=>by subst e; rw [ordE_ok.self] at hab; omega
  have hn:(((zbd R).filter fun e=>decide (e.k=3)&&zfC R (zch e)).map zch).Nodup:=zvh (fun e he=>by
    obtain ⟨h1,h2⟩:=List.mem_filter.1 he
    simp only [Bool.and_eq_true,decide_eq_true_eq] at h2
    exact zkW (znJ h h1) h2.1) (hn0.filter _)
  generalize (((zbd R).filter fun e=>decide (e.k=3)&&zfC R (zch e)).map zch)=A at hn
  have f1:=znK ordL_ok A [] (by simpa using hn) List.Pairwise.nil
  rw [List.nil_append] at f1
  refine ⟨zrT ordL_ok (zoU ordL_ok hn) f1.1 fun x=>?_,f1.2.nodup_iff.2 hn⟩
  rw [(za3 A).mem_iff]
  exact f1.2.mem_iff.symm
theorem zxB {x:Vl} : ∀ {out:List Vl},(out.Pairwise fun a b=>zdZ a b<0)→((zgR out x).Pairwise fun a b=>zdZ a b<0)∧∀ z,z∈zgR out x↔z=x∨z∈out:=by
  intro out h
  unfold zgR
  split
  · rename_i he
    refine ⟨h,fun z=>⟨.inr,fun hz=>?_⟩⟩
    rcases hz with rfl | hz
    · exact List.mem_of_getElem? he
    · exact hz
  · rename_i he
    refine ⟨zjO ordV_ok x out (fun y hy hz=>?_) h,fun z=>insP_mem⟩
    have e:=ordV_ok.zero y x hz
    subst e
    obtain ⟨i,hi,hiy⟩:=List.mem_iff_getElem.1 hy
    refine he ?_
    have hix:ixP (fun z=>decide (zdZ z y<0)) out=i:=zo6 (by omega) (fun k hk z hz=>by
      have hk':k<out.length:=by omega
      rw [List.getElem?_eq_getElem hk'] at hz
      injection hz with hz
      have:=(List.pairwise_iff_getElem.1 h) k i hk' hi hk
      rw [hz,hiy] at this
      exact decide_eq_true this) (fun z hz=>by
      rw [List.getElem?_eq_getElem hi] at hz
      injection hz with hz
      rw [← hz,hiy,ordV_ok.self]; rfl)
    rw [hix,List.getElem?_eq_getElem hi,hiy]
theorem zjP:∀ (l out:List Vl),(out.Pairwise fun a b=>zdZ a b<0)→((l.foldl zgR out).Pairwise fun a b=>zdZ a b<0)∧∀ z,z∈l.foldl zgR out↔z∈l∨z∈out
  | [],out,h=>⟨h,fun z=>by simp⟩
  | x::l,out,h=>by
    obtain ⟨h1,h2⟩:=zxB (x:=x) h
    obtain ⟨h3,h4⟩:=zjP l (zgR out x) h1
    refine ⟨h3,fun z=>?_⟩
    rw [List.foldl_cons,h4,h2,List.mem_cons]
    constructor
    · rintro (h | h | h)
      · exact .inl (.inr h)
      · exact .inl (.inl h)
      · exact .inr h
    · rintro ((h | h) | h)
      · exact .inr (.inl h)
      · exact .inl h
      · exact .inr (.inr h)
def zkX (R:List Evt) (vals:El→List Vl):Prop:=∀ x,(vals x).Pairwise (fun a b=>zdZ a b<0)∧∀ v,v∈vals x↔v∈(zgg R x).map zcI
theorem znL {R:List Evt} {vals:El→List Vl} (hv:zkX R vals) (x:El):vals x=((zgg R x).map zcI).foldl zgR []:=by
  obtain ⟨h1,h2⟩:=hv x
  obtain ⟨h3,h4⟩:=zjP ((zgg R x).map zcI) [] List.Pairwise.nil
  refine zrT ordV_ok h1 h3 fun v=>?_
  rw [h2,h4]; simp
theorem znM {R:List Evt} {vals:El→List Vl} (hv:zkX R vals) (x:El):vals x=[]↔zey R x=false:=by
  rw [znL hv]
  cases hl:zgg R x with
  | nil=>simp [zey,hl]
  | cons a l =>
    simp only [zey,hl,List.isEmpty_cons,Bool.not_false,Bool.true_eq_false,iff_false]
    intro hc
    have:=((zjP (List.map zcI (a::l)) [] List.Pairwise.nil).2 (zcI a)).2 (.inl (by simp))
    rw [hc] at this; cases this
theorem zhD {R:List Evt} {vals:El→List Vl} (hv:zkX R vals) (x:El):(zaG vals (zbT R) (zbT R)).values x=zbE R x:=by
  have hm:decide (x∈zbT R)=zey R x:=by rw [Bool.eq_iff_iff,decide_eq_true_eq]; exact zhC
  simp only [zaG,zbE,hm,← znL hv]
  cases hh:zey R x with
  | false=>rw [(znM hv x).2 hh]; simp
  | true =>
    by_cases k4:x.k=4
    · have:zan x=zaT x.a:=by simp [zan,k4]
      rw [this,zgs]
      simp [k4,zeW]
      cases zg9 R x.a <;> simp
    · by_cases k5:x.k=5
      · have:zan x=zcM (zch x):=by simp [zan,k5]
        rw [this,zgt]
        simp [k5,zeW]
        cases zfC R (zch x) <;> simp
      · simp only [k4,k5,or_self,decide_false,Bool.false_and,Bool.and_false,Bool.false_eq_true,if_false]
        by_cases k2:x.k=2
        · simp [k2]
        · simp [zeW,k2,k4,k5]
theorem zoW {R:List Evt} (h:Row R) {vals:El→List Vl} (hv:zkX R vals) (o:El):(zaG vals (zbT R) (zbT R)).names o=zgS R o:=by
  simp only [zaG,zgS]
  rw [ze9]
  congr 1
  refine List.filter_congr fun e he=>?_
  have hval:decide (0<(zbE R e).length)=(zey R e&&(decide (e.k=4∨e.k=5)&&zaH (zbT R) (zan e))):=by
    rw [← zhD hv]
    have hm:decide (e∈zbT R)=zey R e:=by rw [Bool.eq_iff_iff,decide_eq_true_eq]; exact zhC
    simp only [zaG,hm]
    cases hh:zey R e with
    | false=>simp
    | true =>
      cases decide (e.k=4∨e.k=5)&&zaH (zbT R) (zan e) with
      | false=>simp
      | true =>
        have:vals e≠[]:=fun hc=>by rw [(znM hv e).1 hc] at hh; cases hh
        simp [List.length_pos_iff,this]
  rw [hval]
  by_cases k4:e.k=4
  · have how:zan e=zaT e.a:=by simp [zan,k4]
    by_cases ho:o=zaT e.a
    · subst ho
      simp [k4,how,ofR,zhB]
    · have hno:¬ zan e=o:=fun hc=>ho (by rw [← hc,how])
      simp only [hno,and_false,decide_false,Bool.false_and,Bool.and_false]
      symm
      rw [Bool.eq_false_iff]
      intro hc
      simp only [Bool.and_eq_true] at hc
      obtain ⟨h1,h2,_⟩:=hc
      obtain ⟨ok,oa,ob,oc,od⟩:=o
      simp [zhB,k4] at h2
      obtain ⟨rfl,h3⟩:=h2
      simp [ofR] at h1
      obtain ⟨rfl,rfl,rfl⟩:=h1
      exact ho (by rw [h3])
  · by_cases k5:e.k=5
    · have how:zan e=zcM (zch e):=by simp [zan,k5]
      by_cases ho:o=zcM (zch e)
      · subst ho
        simp [k5,how,ofR,zhB]
      · have hno:¬ zan e=o:=fun hc=>ho (by rw [← hc,how])
        simp only [hno,and_false,decide_false,Bool.false_and,Bool.and_false]
        symm
        rw [Bool.eq_false_iff]
        intro hc
        simp only [Bool.and_eq_true] at hc
        obtain ⟨h1,h2,_⟩:=hc
        obtain ⟨ok,oa,ob,oc,od⟩:=o
        simp [zhB,k5] at h2
        obtain ⟨rfl,h3,h4,h5⟩:=h2
        simp [ofR] at h1
        subst h1
        exact ho (by rw [← h3,← h4,← h5])
    · simp [k4,k5,zhB]
end Go.Proofs.YtchjbidfmhmmhaaGreatDoor
