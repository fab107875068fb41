/- Own work: the zaM machine and what it shows, part Xs. -/
import Derived.Test.YtchjbidfmhmmhaaGreatDoorXr
import Derived.Test.YtchjbidfmhmmhaaGreatDoorGz
set_option linter.all false
namespace Go.Proofs.YtchjbidfmhmmhaaGreatDoor
open Go.Sh
set_option maxHeartbeats 4000000
set_option maxRecDepth 100000
theorem zkD (F:Ex→Vl) {row:List Ex} {i:Nat} {e:Ex} (h:row[i]?=some e):zbF F (row.take (i+1))=zbF F (row.take i)++[atX F (zbF F (row.take i)) e] :=
 zhi (znr F) [] row i e h
theorem zjq (F:Ex→Vl) {row:List Ex} {i:Nat} (h:i≤row.length):(zbF F (row.take i)).length=i:=by
 rw [zbF,zfr,List.length_take,List.length_nil]; omega
theorem znt (F:Ex→Vl) (row:List Ex) (j:Nat):∀ i,j<i→i≤row.length→(zbF F (row.take i))[j]?=(zbF F (row.take (j+1)))[j]?
 | 0,h,_=>by omega
 | i+1,h,hl=>by
  rcases Nat.lt_or_ge j i with hj | hj
  ·have hi:row[i]?=some row[i]:=List.getElem?_eq_getElem (by omega)
   rw [zkD F hi,List.getElem?_append_left (by rw [zjq F (by omega)]; exact hj)]
   exact znt F row j i hj (by omega)
  ·have:j=i:=by omega
   rw [this]
def evD (F:Ex→Vl) (row:List Ex) (i:Nat):Vl:=zdu (zbF F (row.take (i+1))) i
theorem zFI (F:Ex→Vl) {row:List Ex} {i:Nat} {e:Ex} (h:row[i]?=some e):evD F row i=atX F (zbF F (row.take i)) e:=by
 have hi:=(List.getElem?_eq_some_iff.1 h).1
 unfold evD zdu
 rw [Int.toNat_natCast,zkD F h,List.getElem?_append_right (by rw [zjq F (by omega)]; exact Nat.le_refl _),zjq F (by omega),Nat.sub_self]
 rfl
theorem zqp (F:Ex→Vl) {row:List Ex} {i:Nat} {j:Int} (h0:0≤j) (hj:j<i) (hi:i≤row.length):zdu (zbF F (row.take i)) j=evD F row j.toNat:=by
 unfold evD zdu
 rw [Int.toNat_natCast,znt F row j.toNat i (by omega) hi]
def zg3 (R:List Evt) (env:List Bd) (e:Ex):Vl :=
 if e.k=1 then e.v
 else if e.k=2 then zg2 env e.var
 else if e.k=4 then zqk (zcJ R (zg2 env e.var) e.prop).length
 else ((zcJ R (zg2 env e.var) e.prop).getLast?).getD zaV
theorem zqq {env:List Bd} (h:∀ b∈env,okV b.v=true) (name:List UInt8):okV (zg2 env name)=true:=by
 unfold zg2
 cases hf:env.find? fun b=>decide (b.var=name) with
 | none=>exact zfd
 | some b=>exact h b (List.mem_of_find?_eq_some hf)
theorem zsC {R:List Evt} {vr:GV} (h:RowV R vr) (row:List Ex) (hrl:row.length≤1000) (vw:GV) (hvw:Elems 8 vw (row.map exG)) (env:List Bd) (hel:env.length≤1000) (hok:∀ b∈env,okV b.v=true) (va vb:GV) (hva:Elems 1 va (env.map fun b=>zbB b.var)) (hvb:Elems 3 vb (env.map fun b=>vlG b.v)) (i:Nat) (e:Ex) (hi:row[i]?=some e) (h1:e.k=1∨e.k=2∨e.k=3∨e.k=4) (H:GH) :
 ecall T zhQ [vw,.int .i64 i,.agg [va,vb],vr] H=some (.agg (vlC (zg3 R env e)),H):=by
 have hlt:=(List.getElem?_eq_some_iff.1 hi).1
 obtain ⟨lt,ix,opt,get,⟨t,sv⟩,_,mem⟩:=zbL (e:=exG) hvw hlt (by omega)
 have hge:=(List.getElem?_eq_some_iff.1 hi).2
 generalize row[i]'hlt=y at opt get mem hge
 subst hge
 have hG:=fun H=>zwO env hel va vb hva hvb y.var H
 have hlen:(zcJ R (zg2 env y.var) y.prop).length≤60:=by
  unfold zcJ
  split
  ·exact zka h.row _
  ·simp
 obtain ⟨v,hv,hvE⟩:=zns h (zg2 env y.var) (zqq hok y.var) y.prop H.over
 have v1:=hvE.len
 have v2:=zad hvE
 have v3:=hvE.ok
 simp only [List.length_map] at v1
 have x5:∀ h,(exC y)[5]'h=.str (mkB y.prop):=fun _=>rfl
 have vu:=h.el.unb
 have vo:=h.el.ok
 have w2:=zad hvw
 have w3:=hvw.ok
 have a2:=zad hva
 have a3:=hva.ok
 have a4:=hva.one
 have b2:=zad hvb
 have b3:=hvb.ok
 have b4:=hvb.one
 have hl8:(exC y).length=8:=rfl
 have ht8:List.take 8 (exC y)=exC y:=rfl
 have ho8:(exC y).all GV.one=true:=rfl
 have hs8:zaa [GV.int .i64 0,.int .i64 0,.int .i64 0,.str ⟨#[]⟩,.str ⟨#[]⟩,.str ⟨#[]⟩,.int .i64 0,.int .i64 0] 0 (exC y)=some (exC y):=rfl
 have x0:∀ h,(exC y)[0]'h=.int .i64 y.k:=fun _=>rfl
 have x4:∀ h,(exC y)[4]'h=.str (mkB y.var):=fun _=>rfl
 have xv:List.take 3 (List.drop 1 (exC y))=vlC y.v:=rfl
 have xv':List.take 3 (List.tail (exC y))=vlC y.v:=rfl
 have hcl:∀ v,zaJ H.objs.length H.toks.length 100 (GV.agg (vlC v))=some (.agg (vlC v)):=fun _=>rfl
 rw [sv] at w2 w3 ⊢
 apply optW.eq
 rw [zbc zAT rfl (by simp [zkI]),zab]
 simp only [zkI,zx9]
 unfold zg3
 rcases h1 with h1 | h1 | h1 | h1
 ·simp [vu,vo,w2,w3,a2,a3,a4,b2,b3,b4,ix,opt,hl8,ht8,ho8,hs8,x0,x4,xv,xv',h1,zak,zah,zal,zay,zaf,zaa,hcl]
 ·simp [vu,vo,w2,w3,a2,a3,a4,b2,b3,b4,ix,opt,hl8,ht8,ho8,hs8,x0,x4,xv,xv',h1,hG,zak,zah,zal,zay,zaf,zaa,hcl]
 ·generalize zcJ R (zg2 env y.var) y.prop=vs at *
  cases hvs:vs.getLast? with
  | none =>
   have hnil:vs=[]:=List.getLast?_eq_none_iff.1 hvs
   subst hnil
   have hcl0:zaJ H.objs.length H.toks.length 100 (GV.agg [.int .i64 0,.int .i64 0,.str ⟨#[]⟩])=some (.agg [.int .i64 0,.int .i64 0,.str ⟨#[]⟩]):=rfl
   simp [vu,vo,w2,w3,a2,a3,a4,b2,b3,b4,ix,opt,hl8,ht8,ho8,hs8,x0,x4,x5,h1,hG,zak,zah,zal,zay,zaf,zaa,hv,v1,v2,v3,hcl0]
   try rfl
  | some p =>
   rw [List.getLast?_eq_getElem?] at hvs
   have hpos:0<vs.length:=by
    rcases vs with _ | ⟨a,l⟩
    ·simp at hvs
    ·simp
   have hne:¬ ((vs.length:Int)=0):=by omega
   have hne':¬ vs=[]:=fun h=>by rw [h] at hpos; simp at hpos
   obtain ⟨lt3,ix3,opt3,get3,⟨t3,sv3⟩,_,_⟩:=zbL (e:=vlG) hvE (show vs.length - 1<vs.length by omega) (by omega)
   have hw1:IntKind.i64.wrap ((vs.length:Int) - 1)=((vs.length - 1:Nat):Int):=by
    rw [zar (by omega) (by omega)]; omega
   have hg:∀ h,vs[vs.length - 1]'h=p:=fun _=>(List.getElem?_eq_some_iff.1 hvs).2
   rw [sv3] at hv v1
   simp [vu,vo,w2,w3,a2,a3,a4,b2,b3,b4,ix,opt,hl8,ht8,ho8,hs8,x0,x4,x5,h1,hG,zak,zah,zal,zay,zaf,zaa,hv,hne,hne',hpos,hw1,ix3,hvs,hg,hcl]
 ·generalize zcJ R (zg2 env y.var) y.prop=vs at *
  have hnum:zqk vs.length=⟨2,vs.length,[]⟩:=by
   rw [zkB]; unfold zcn; rw [if_neg (by omega),if_neg (by omega)]
  have hcl1:zaJ H.objs.length H.toks.length 100 (GV.agg [.int .i64 2,.int .i64 vs.length,.str ⟨#[]⟩])=some (.agg [.int .i64 2,.int .i64 vs.length,.str ⟨#[]⟩]):=rfl
  simp [vu,vo,w2,w3,a2,a3,a4,b2,b3,b4,ix,opt,hl8,ht8,ho8,hs8,x0,x4,x5,h1,hG,zak,zah,zal,zay,zaf,zaa,hv,v1,v2,v3,hcl1,hnum]
  try rfl
theorem zCf {x:Vl} (h:okV x=true):x.t.length≤64:=by
 unfold okV zbN at h
 split at h
 ·simp at h; simp [h.2]
 ·split at h
  ·simp at h; simp [h.2]
  ·split at h
   ·simp at h; simp [h.2.2]
   ·split at h
    ·simp [zky] at h; omega
    ·split at h
     ·simp [zaz] at h; omega
     ·split at h
      ·simp only [Bool.and_eq_true] at h
       rcases Nat.lt_or_ge 60 x.t.length with hl | hl
       ·rw [zfq _ hl] at h; cases h.2
       ·omega
      ·cases h
theorem zwR {x:Vl} (h:okV x=true) (hk:x.k=2):x.n.natAbs≤1099511627776:=by
 unfold okV zbN at h
 rw [if_neg (by omega),if_neg (by omega),if_pos hk] at h
 simp at h; omega
theorem zwS {vr:GV} (vu:∀ t,zbl t vr=vr) (vo:vr.ok=true) (row:List Ex) (hrl:row.length≤1000) (vw:GV) (hvw:Elems 8 vw (row.map exG)) (va vb:GV) (a2:∀ t,zbl t va=va) (a3:va.ok=true) (a4:va.one=true) (b2:∀ t,zbl t vb=vb) (b3:vb.ok=true) (b4:vb.one=true) (i:Nat) (e:Ex) (hi:row[i]?=some e) (h5:5≤e.k) (h7:e.k≤7) (a:Vl) (H:GH)
 (hA:ecall T zhQ [vw,.int .i64 e.l,.agg [va,vb],vr] H.over=some (.agg (vlC a),H.over)) :
 ecall T zhQ [vw,.int .i64 i,.agg [va,vb],vr] H=some (.agg (vlC (zB6 e.k a)),H):=by
 have hlt:=(List.getElem?_eq_some_iff.1 hi).1
 obtain ⟨lt,ix,opt,get,⟨t,sv⟩,_,mem⟩:=zbL (e:=exG) hvw hlt (by omega)
 have hge:=(List.getElem?_eq_some_iff.1 hi).2
 generalize row[i]'hlt=y at opt get mem hge
 subst hge
 have hb:=fun b H=>zcy b H
 have w2:=zad hvw
 have w3:=hvw.ok
 have hl8:(exC y).length=8:=rfl
 have ht8:List.take 8 (exC y)=exC y:=rfl
 have ho8:(exC y).all GV.one=true:=rfl
 have hs8:zaa [GV.int .i64 0,.int .i64 0,.int .i64 0,.str ⟨#[]⟩,.str ⟨#[]⟩,.str ⟨#[]⟩,.int .i64 0,.int .i64 0] 0 (exC y)=some (exC y):=rfl
 have x0:∀ h,(exC y)[0]'h=.int .i64 y.k:=fun _=>rfl
 have x6:∀ h,(exC y)[6]'h=.int .i64 y.l:=fun _=>rfl
 have x7:∀ h,(exC y)[7]'h=.int .i64 y.r:=fun _=>rfl
 have hcl:∀ v,zaJ H.objs.length H.toks.length 100 (GV.agg (vlC v))=some (.agg (vlC v)):=fun _=>rfl
 have hz:zaa (vlC zaV) 0 (vlC zaV)=some (vlC zaV):=rfl
 have hs9:∀ v,zaa (vlC zaV) 0 (vlC v)=some (vlC v):=fun _=>rfl
 rw [sv] at w2 w3 hA ⊢
 apply optW.eq
 rw [zbc zAT rfl (by simp [zkI]),zab]
 simp only [zkI,zx9,zlB]
 unfold zB6
 have hk:y.k=5∨y.k=6∨y.k=7:=by omega
 rcases hk with hk | hk | hk
 ·by_cases q:a.k=1
  ·simp [vu,vo,w2,w3,a2,a3,a4,b2,b3,b4,ix,opt,hl8,ht8,ho8,hs8,x0,x6,x7,hA,zak,zah,zal,zay,zdC,zdD,zbq,zbr,zaf,hcl,hb,zaj,hs9,hk,q]
  ·simp [vu,vo,w2,w3,a2,a3,a4,b2,b3,b4,ix,opt,hl8,ht8,ho8,hs8,x0,x6,x7,hA,zak,zah,zal,zay,zdC,zdD,zbq,zbr,zaf,hcl,hb,zaj,hs9,hk,q]
 ·simp [vu,vo,w2,w3,a2,a3,a4,b2,b3,b4,ix,opt,hl8,ht8,ho8,hs8,x0,x6,x7,hA,zak,zah,zal,zay,zdC,zdD,zbq,zbr,zaf,hcl,hb,zaj,hs9,hk]
 ·simp [vu,vo,w2,w3,a2,a3,a4,b2,b3,b4,ix,opt,hl8,ht8,ho8,hs8,x0,x6,x7,hA,zak,zah,zal,zay,zdC,zdD,zbq,zbr,zaf,hcl,hb,zaj,hs9,hk]
theorem zwT {vr:GV} (vu:∀ t,zbl t vr=vr) (vo:vr.ok=true) (row:List Ex) (hrl:row.length≤1000) (vw:GV) (hvw:Elems 8 vw (row.map exG)) (va vb:GV) (a2:∀ t,zbl t va=va) (a3:va.ok=true) (a4:va.one=true) (b2:∀ t,zbl t vb=vb) (b3:vb.ok=true) (b4:vb.one=true) (i:Nat) (e:Ex) (hi:row[i]?=some e) (h8:8≤e.k) (h18:e.k≤18) (a b:Vl) (oa:okV a=true) (ob:okV b=true) (H:GH)
 (hB:ecall T zhQ [vw,.int .i64 e.r,.agg [va,vb],vr] H.over=some (.agg (vlC b),H.over))
 (hA:ecall T zhQ [vw,.int .i64 e.l,.agg [va,vb],vr] H.over=some (.agg (vlC a),H.over)) :
 ecall T zhQ [vw,.int .i64 i,.agg [va,vb],vr] H=some (.agg (vlC (if e.k=8 then zfQ a b true else if e.k=9 then zfQ a b false else if e.k<16 then zjQ e.k a b else zpc e.k a b)),H):=by
 have hlt:=(List.getElem?_eq_some_iff.1 hi).1
 obtain ⟨lt,ix,opt,get,⟨t,sv⟩,_,mem⟩:=zbL (e:=exG) hvw hlt (by omega)
 have hge:=(List.getElem?_eq_some_iff.1 hi).2
 generalize row[i]'hlt=y at opt get mem hge
 subst hge
 have hb:=fun b H=>zcy b H
 have w2:=zad hvw
 have w3:=hvw.ok
 have hl8:(exC y).length=8:=rfl
 have ht8:List.take 8 (exC y)=exC y:=rfl
 have ho8:(exC y).all GV.one=true:=rfl
 have hs8:zaa [GV.int .i64 0,.int .i64 0,.int .i64 0,.str ⟨#[]⟩,.str ⟨#[]⟩,.str ⟨#[]⟩,.int .i64 0,.int .i64 0] 0 (exC y)=some (exC y):=rfl
 have x0:∀ h,(exC y)[0]'h=.int .i64 y.k:=fun _=>rfl
 have x6:∀ h,(exC y)[6]'h=.int .i64 y.l:=fun _=>rfl
 have x7:∀ h,(exC y)[7]'h=.int .i64 y.r:=fun _=>rfl
 have hcl:∀ v,zaJ H.objs.length H.toks.length 100 (GV.agg (vlC v))=some (.agg (vlC v)):=fun _=>rfl
 have hz:zaa (vlC zaV) 0 (vlC zaV)=some (vlC zaV):=rfl
 have hs9:∀ v,zaa (vlC zaV) 0 (vlC v)=some (vlC v):=fun _=>rfl
 rw [sv] at w2 w3 hA hB ⊢
 apply optW.eq
 rw [zbc zAT rfl (by simp [zkI]),zab]
 simp only [zkI,zx9,zlB]
 have hlg:=fun d H=>zpe a b d H
 have hcp:=fun n H=>zjp n H
 have hnum:∀ n,zqk n=⟨2,zcn n,[]⟩:=zkB
 by_cases k8:y.k=8
 ·simp [vu,vo,w2,w3,a2,a3,a4,b2,b3,b4,ix,opt,hl8,ht8,ho8,hs8,x0,x6,x7,hA,hB,zak,zah,zal,zay,zdC,zdD,zbq,zbr,zaf,hcl,hb,zaj,hs9,k8,hlg]
 ·by_cases k9:y.k=9
  ·simp [vu,vo,w2,w3,a2,a3,a4,b2,b3,b4,ix,opt,hl8,ht8,ho8,hs8,x0,x6,x7,hA,hB,zak,zah,zal,zay,zdC,zdD,zbq,zbr,zaf,hcl,hb,zaj,hs9,k9,hlg]
  ·by_cases k10:y.k=10
   ·unfold zjQ
    by_cases q1:a=zaV
    ·simp [vu,vo,w2,w3,a2,a3,a4,b2,b3,b4,ix,opt,hl8,ht8,ho8,hs8,x0,x6,x7,hA,hB,zak,zah,zal,zay,zdC,zdD,zbq,zbr,zaf,hcl,hb,zaj,hs9,k10,q1]
    ·by_cases q2:b=zaV
     ·simp [vu,vo,w2,w3,a2,a3,a4,b2,b3,b4,ix,opt,hl8,ht8,ho8,hs8,x0,x6,x7,hA,hB,zak,zah,zal,zay,zdC,zdD,zbq,zbr,zaf,hcl,hb,zaj,hs9,k10,q1,q2]
     ·simp [vu,vo,w2,w3,a2,a3,a4,b2,b3,b4,ix,opt,hl8,ht8,ho8,hs8,x0,x6,x7,hA,hB,zak,zah,zal,zay,zdC,zdD,zbq,zbr,zaf,hcl,hb,zaj,hs9,k10,q1,q2]
   ·by_cases k11:y.k=11
    ·unfold zjQ
     by_cases q1:a=zaV
     ·simp [vu,vo,w2,w3,a2,a3,a4,b2,b3,b4,ix,opt,hl8,ht8,ho8,hs8,x0,x6,x7,hA,hB,zak,zah,zal,zay,zdC,zdD,zbq,zbr,zaf,hcl,hb,zaj,hs9,k11,q1]
     ·by_cases q2:b=zaV
      ·simp [vu,vo,w2,w3,a2,a3,a4,b2,b3,b4,ix,opt,hl8,ht8,ho8,hs8,x0,x6,x7,hA,hB,zak,zah,zal,zay,zdC,zdD,zbq,zbr,zaf,hcl,hb,zaj,hs9,k11,q1,q2]
      ·simp [vu,vo,w2,w3,a2,a3,a4,b2,b3,b4,ix,opt,hl8,ht8,ho8,hs8,x0,x6,x7,hA,hB,zak,zah,zal,zay,zdC,zdD,zbq,zbr,zaf,hcl,hb,zaj,hs9,k11,q1,q2]
    ·by_cases k16:y.k<16
     ·have hod:=fun H=>zpf y.k (by omega) (by omega) a b (by have:=zCf oa; omega) H
      have hk:y.k=12∨y.k=13∨y.k=14∨y.k=15:=by omega
      rcases hk with hk | hk | hk | hk <;> (rw [hk] at hod; simp [vu,vo,w2,w3,a2,a3,a4,b2,b3,b4,ix,opt,hl8,ht8,ho8,hs8,x0,x6,x7,hA,hB,zak,zah,zal,zay,zdC,zdD,zbq,zbr,zaf,hcl,hb,zaj,hs9,hk,hod])
     ·have hp2:zaa (vlC zaV) 0 [.int .i64 2]=some (vlC ⟨2,0,[]⟩):=rfl
      have hp3:∀ n,zaa (vlC ⟨2,0,[]⟩) 1 [.int .i64 n]=some (vlC ⟨2,n,[]⟩):=fun _=>rfl
      have hk:y.k=16∨y.k=17∨y.k=18:=by omega
      unfold zpc
      by_cases q1:a.k=2
      ·by_cases q2:b.k=2
       ·have na:=zwR oa q1
        have nb:=zwR ob q2
        have htm':=fun H=>zpi a.n b.n na nb H
        have hpc:=zsz na nb
        rcases hk with hk | hk | hk <;> simp [vu,vo,w2,w3,a2,a3,a4,b2,b3,b4,ix,opt,hl8,ht8,ho8,hs8,x0,x6,x7,hA,hB,zak,zah,zal,zay,zdC,zdD,zbq,zbr,zaf,hcl,hb,zaj,hs9,hk,q1,q2,hcp,htm',hnum,hp2,hp3,hpc]
       ·rcases hk with hk | hk | hk <;> simp [vu,vo,w2,w3,a2,a3,a4,b2,b3,b4,ix,opt,hl8,ht8,ho8,hs8,x0,x6,x7,hA,hB,zak,zah,zal,zay,zdC,zdD,zbq,zbr,zaf,hcl,hb,zaj,hs9,hk,q1,q2]
      ·rcases hk with hk | hk | hk <;> simp [vu,vo,w2,w3,a2,a3,a4,b2,b3,b4,ix,opt,hl8,ht8,ho8,hs8,x0,x6,x7,hA,hB,zak,zah,zal,zay,zdC,zdD,zbq,zbr,zaf,hcl,hb,zaj,hs9,hk,q1]
theorem zsD {R:List Evt} {vr:GV} (h:RowV R vr) (row:List Ex) (hrl:row.length≤1000) (hmay:∀ (i:Nat) (e:Ex),row[i]?=some e→zgh e i=true) (vw:GV) (hvw:Elems 8 vw (row.map exG)) (env:List Bd) (hel:env.length≤1000) (hok:∀ b∈env,okV b.v=true) (va vb:GV) (hva:Elems 1 va (env.map fun b=>zbB b.var)) (hvb:Elems 3 vb (env.map fun b=>vlG b.v))
 (hev:∀ i,i<row.length→okV (evD (zg3 R env) row i)=true) (n:Nat):∀ (i:Nat) (e:Ex),i<n→row[i]?=some e→∀ H,ecall T zhQ [vw,.int .i64 i,.agg [va,vb],vr] H=some (.agg (vlC (evD (zg3 R env) row i)),H):=by
 induction n with
 | zero=>intro i e hi; omega
 | succ n ih =>
  intro i e hi he H
  have hlt:=(List.getElem?_eq_some_iff.1 he).1
  have hm:=hmay i e he
  rw [zFI _ he]
  unfold atX
  by_cases h5:e.k<5
  ·rw [if_pos h5]
   have hk:1≤e.k:=by
    simp only [zgh,Bool.and_eq_true] at hm
    have h1:=hm.1
    unfold okX at h1
    rcases Int.lt_or_le e.k 1 with hk | hk
    ·rw [if_neg (by omega),if_neg (by omega),if_neg (by omega),if_neg (by omega),if_neg (by omega)] at h1; cases h1
    ·exact hk
   exact zsC h row hrl vw hvw env hel hok va vb hva hvb i e he (by omega) H
  ·rw [if_neg h5]
   obtain ⟨l0,l1⟩:=zB7 hm (by omega)
   have hll:e.l.toNat<row.length:=by omega
   have hA:=ih e.l.toNat row[e.l.toNat] (by omega) (List.getElem?_eq_getElem hll) H.over
   rw [show ((e.l.toNat:Nat):Int)=e.l by omega] at hA
   rw [zqp _ l0 l1 (by omega)]
   by_cases h8:e.k<8
   ·rw [if_pos h8]
    exact zwS h.el.unb h.el.ok row hrl vw hvw va vb (zad hva) hva.ok hva.one (zad hvb) hvb.ok hvb.one i e he (by omega) (by omega) _ H hA
   ·rw [if_neg h8]
    obtain ⟨r0,r1⟩:=zB8 hm (by omega)
    have hrr:e.r.toNat<row.length:=by omega
    have hB:=ih e.r.toNat row[e.r.toNat] (by omega) (List.getElem?_eq_getElem hrr) H.over
    rw [show ((e.r.toNat:Nat):Int)=e.r by omega] at hB
    rw [zqp _ r0 r1 (by omega)]
    have h18:e.k≤18:=by
     simp only [zgh,Bool.and_eq_true] at hm
     have h1:=hm.1
     unfold okX at h1
     rcases Int.lt_or_le 18 e.k with hk | hk
     ·rw [if_neg (by omega),if_neg (by omega),if_neg (by omega),if_neg (by omega),if_neg (by omega)] at h1; cases h1
     ·exact hk
    exact zwT h.el.unb h.el.ok row hrl vw hvw va vb (zad hva) hva.ok hva.one (zad hvb) hvb.ok hvb.one i e he (by omega) h18 _ _ (hev _ hll) (hev _ hrr) H hB hA
theorem zAy {P:Vl→Prop} : ∀ (l out:List Vl),(∀ v∈out,P v)→(∀ v∈l,P v)→∀ v∈l.foldl zg5 out,P v
 | [],out,ho,_=>ho
 | x::l,out,ho,hl=>by
  rw [List.foldl_cons]
  refine zAy l _ (fun v hv=>?_) fun v hv=>hl v (List.mem_cons_of_mem _ hv)
  unfold zg5 at hv
  split at hv
  ·exact ho v hv
  ·rcases insP_mem.1 hv with rfl | hv
   ·exact hl _ List.mem_cons_self
   ·exact ho v hv
theorem zsE {R:List Evt} (h:Row R) (z:El):∀ v∈zdz R z,okV v=true:=by
 intro v hv
 unfold zdz at hv
 split at hv
 ·cases hv
 ·rename_i hc
  simp only [Bool.or_eq_true,decide_eq_true_eq,not_or] at hc
  refine zAy (P:=fun v=>okV v=true) _ [] (by simp) (fun x hx=>?_) v hv
  obtain ⟨e,he,rfl⟩:=List.mem_map.1 hx
  obtain ⟨h1,h2⟩:=List.mem_filter.1 he
  simp only [zcN,Bool.and_eq_true,decide_eq_true_eq] at h2
  obtain ⟨⟨rfl,hop⟩,_⟩:=h2
  have hev:=((zgv rfl h.causl).2 e h1).1
  simp only [evB,Bool.and_eq_true] at hev
  have hm:=hev.2
  unfold znw at hm
  simp only [Bool.and_eq_true] at hm
  have hm2:=hm.2
  rcases hop with ho | ho
  ·rw [ho] at hm2
   simp only [true_or,if_true,Bool.and_eq_true,decide_eq_true_eq] at hm2
   exact absurd hm2.2 hc.1
  ·rw [ho] at hm2
   have h31:¬ ((3:Int)=1∨(3:Int)=2):=by omega
   simp only [h31,if_false,if_true,Bool.and_eq_true,decide_eq_true_eq] at hm2
   exact hm2.2.2
theorem zzU {R:List Evt} (h:Row R) {env:List Bd} (hb:∀ b∈env,okV b.v=true) (e:Ex) (he:e.k=1→okV e.v=true):okV (zg3 R env e)=true:=by
 unfold zg3
 split
 ·rename_i h1; exact he h1
 ·split
  ·exact zqq hb _
  ·split
   ·exact zql _
   ·cases hx:(zcJ R (zg2 env e.var) e.prop).getLast? with
    | none=>exact zfd
    | some v =>
     have hm:=List.mem_of_getLast? hx
     unfold zcJ at hm
     split at hm
     ·exact zsE h _ _ hm
     ·cases hm
theorem zwU {R:List Evt} (h:Row R) (env:List Bd):zwL (zj9 R) env=zg3 R env:=by
 funext e
 have hv:zek (zj9 R) env e=zcJ R (zg2 env e.var) e.prop:=by
  unfold zek zcJ
  cases zsA (zg2 env e.var) e.prop with
  | none=>rfl
  | some z=>exact ziu (zpH h) z
 unfold zwL zg3
 rw [hv]
theorem zCg {e:Ex} {a:Int} (h:zgh e a=true) (hk:e.k=1):okV e.v=true:=by
 simp only [zgh,Bool.and_eq_true] at h
 have h1:=h.1
 unfold okX at h1
 rw [if_pos hk,Bool.and_eq_true] at h1
 exact h1.1
theorem zFJ {R:List Evt} (h:Row R) {env:List Bd} (hb:∀ b∈env,okV b.v=true) {row:List Ex} (hr:zcc row=true) (i:Nat):okV (evD (zg3 R env) row i)=true:=by
 unfold evD
 refine zCc (zqn _ _ [] (fun e he _=>zzU h hb e fun hk=>?_) (by simp)) _
 obtain ⟨a,ha⟩:=zwH hr (List.mem_of_mem_take he)
 exact zCg ha hk
theorem zzV {row:List Ex} (h:zcc row=true) (i:Nat) (e:Ex) (he:row[i]?=some e):zgh e i=true:=by
 have hlt:=(List.getElem?_eq_some_iff.1 he).1
 have:=List.all_eq_true.1 h i (List.mem_range.2 hlt)
 rw [he] at this
 exact this
end Go.Proofs.YtchjbidfmhmmhaaGreatDoor
