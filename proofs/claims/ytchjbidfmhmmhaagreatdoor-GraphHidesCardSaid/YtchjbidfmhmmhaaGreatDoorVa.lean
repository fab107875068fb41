/- Own work: the zaG machine and what it shows, part Va. -/
import Derived.Test.YtchjbidfmhmmhaaGreatDoorFun
import Derived.Test.YtchjbidfmhmmhaaGreatDoorShF
import Derived.Test.YtchjbidfmhmmhaaGreatDoorVp
import Derived.Laws.RangeString
import Derived.Laws.RangeAny
set_option linter.all false
namespace Go.Proofs.YtchjbidfmhmmhaaGreatDoor
open Go.Sh
set_option maxRecDepth 100000
theorem zcP (s:ByteArray) (i:Nat):s[i]?=s.data.toList[i]?:=by
 rcases s with ⟨d⟩
 by_cases h:i<d.size
 ·have h1:(ByteArray.mk d)[i]?=some (d[i]):=by
   rw [getElem?_pos (ByteArray.mk d) i h]; rfl
  rw [h1]; simp [h]
 ·have h1:(ByteArray.mk d)[i]?=none:=getElem?_neg (ByteArray.mk d) i h
  rw [h1]; simp [Nat.not_lt.1 h]
theorem zdr {l:List UInt8} {i:Nat} (h:l.drop i=[]):l.length≤i:=by simpa using h
theorem zds {l cs:List UInt8} {c:UInt8} {i:Nat} (h:l.drop i=c::cs):l[i]?=some c∧i<l.length∧l.drop (i+1)=cs:=by
 have h1:i<l.length:=by
  rcases Nat.lt_or_ge i l.length with h1 | h1
  ·exact h1
  ·rw [List.drop_eq_nil_of_le h1] at h; cases h
 refine ⟨?_,h1, ?_⟩
 ·have:=congrArg (·[0]?) h
  simpa using this
 ·have:=congrArg List.tail h
  simpa using this
theorem u8_ne {x y:UInt8} : (x.toNat:Int)=y.toNat↔x=y:=by
 constructor
 ·intro h; exact UInt8.toNat_inj.1 (by omega)
 ·rintro rfl; rfl
theorem zb9 (c:UInt8) (H:GH):ecall T zq4 [.int .u8 c.toNat] H=some (.bool (zcR c),H):=by
 apply optW.eq
 rw [zad zC8 rfl (by simp [zrJ]),zab]
 unfold zcR
 rcases (by omega:(c.toNat:Int)<48∨(48≤(c.toNat:Int)∧(c.toNat:Int)≤57)∨(58≤(c.toNat:Int)∧(c.toNat:Int)≤64)∨(65≤(c.toNat:Int)∧(c.toNat:Int)≤90)∨(91≤(c.toNat:Int)∧(c.toNat:Int)≤94)∨(c.toNat:Int)=95∨(c.toNat:Int)=96∨(97≤(c.toNat:Int)∧(c.toNat:Int)≤122)∨123≤(c.toNat:Int)) with h | h | h | h | h | h | h | h | h
 all_goals
  first | (have a0:(97:Int)≤c.toNat:=by omega) | (have a0:¬ ((97:Int)≤c.toNat):=by omega)
  first | (have a1:(c.toNat:Int)≤122:=by omega) | (have a1:¬ ((c.toNat:Int)≤122):=by omega)
  first | (have a2:(65:Int)≤c.toNat:=by omega) | (have a2:¬ ((65:Int)≤c.toNat):=by omega)
  first | (have a3:(c.toNat:Int)≤90:=by omega) | (have a3:¬ ((c.toNat:Int)≤90):=by omega)
  first | (have a4:(48:Int)≤c.toNat:=by omega) | (have a4:¬ ((48:Int)≤c.toNat):=by omega)
  first | (have a5:(c.toNat:Int)≤57:=by omega) | (have a5:¬ ((c.toNat:Int)≤57):=by omega)
  first | (have a6:(c.toNat:Int)=95:=by omega) | (have a6:¬ ((c.toNat:Int)=95):=by omega)
  simp [zrJ,zAd,a0,a1,a2,a3]
  omega
theorem zis (c:UInt8) (H:GH):ecall T zu8 [.int .u8 c.toNat] H=some (.bool (zdR c),H):=by
 apply optW.eq
 rw [zad zC9 rfl (by simp [zkU]),zab]
 unfold zdR
 cases hl:zcR c
 ·rcases (by omega:(c.toNat:Int)<48∨(48≤(c.toNat:Int)∧(c.toNat:Int)≤57)∨(58≤(c.toNat:Int)∧(c.toNat:Int)≤64)∨(65≤(c.toNat:Int)∧(c.toNat:Int)≤90)∨(91≤(c.toNat:Int)∧(c.toNat:Int)≤94)∨(c.toNat:Int)=95∨(c.toNat:Int)=96∨(97≤(c.toNat:Int)∧(c.toNat:Int)≤122)∨123≤(c.toNat:Int)) with h | h | h | h | h | h | h | h | h
  all_goals
   first | (have a0:(97:Int)≤c.toNat:=by omega) | (have a0:¬ ((97:Int)≤c.toNat):=by omega)
   first | (have a1:(c.toNat:Int)≤122:=by omega) | (have a1:¬ ((c.toNat:Int)≤122):=by omega)
   first | (have a2:(65:Int)≤c.toNat:=by omega) | (have a2:¬ ((65:Int)≤c.toNat):=by omega)
   first | (have a3:(c.toNat:Int)≤90:=by omega) | (have a3:¬ ((c.toNat:Int)≤90):=by omega)
   first | (have a4:(48:Int)≤c.toNat:=by omega) | (have a4:¬ ((48:Int)≤c.toNat):=by omega)
   first | (have a5:(c.toNat:Int)≤57:=by omega) | (have a5:¬ ((c.toNat:Int)≤57):=by omega)
   first | (have a6:(c.toNat:Int)=95:=by omega) | (have a6:¬ ((c.toNat:Int)=95):=by omega)
   first
    | (have hv:=zb9 c H; rw [h,hl] at hv; have hn:c.toNat=95:=by omega
       simp [zkU,zrK,hv,h,hn]; done)
    | (simp [zkU,zrK,zb9,hl,a4,a5,a6]; done)
    | (simp [zkU,zrK,zb9,hl,a4,a5,a6]; omega)
 ·simp [zkU,zrK,zb9,hl]
theorem znu {a:ByteArray} {i:Nat} (h:(i:Int)<a.size):gIx a.size (.int .i64 i)=some i:=by
 simp only [gIx]; rw [if_pos (by omega)]; simp
theorem zt5 (a:ByteArray) (ha:a.size≤9223372036854775807) (cs:List UInt8):∀ (i:Nat) (_:a.data.toList.drop i=cs) (l:List GV) (g:Nat) (H:GH) (K:GExit × St→Prop)
 (_:zag l 0=.str a) (_:zag l 18=.int .i64 a.size) (_:zag l 19=.int .i64 i)
 (_:∀ l',cs.all zdR=false→zag l' 2=.bool false→K (.ret,⟨⟨l',g⟩,H⟩))
 (_:∀ l',cs.all zdR=true→K (.exit 0,⟨⟨l',g⟩,H⟩)),
 optW (erun T (.loop zkQ) ⟨⟨l,g⟩,H⟩) K:=by
 induction cs with
 | nil =>
  intro i hd l g H K h0 h18 h19 hr he
  have hlen:=zdr hd
  have hge:¬ ((i:Int)<a.size):=by
   have:a.size=a.data.toList.length:=by simp
   omega
  rw [zal]
  simp [zkQ,h0,h18,h19,hge]
  exact he _ (by simp)
 | cons c cs ih =>
  intro i hd l g H K h0 h18 h19 hr he
  obtain ⟨hg,hi,hd'⟩:=zds hd
  have hsz:a.size=a.data.toList.length:=by simp
  have hlt:(i:Int)<a.size:=by omega
  have hix:=znu hlt
  have hw:IntKind.i64.wrap ((i:Int)+1)=(i:Int)+1:=zam (by omega) (by omega)
  have hg':a.data[i]?=some c:=by simpa using hg
  rw [zal,zay]
  cases hin:zdR c
  ·simp [zkQ,h0,h18,h19,hlt,hix,zcP,hg',zis,hin]
   exact hr _ (by simp [hin]) (by simp)
  ·simp [zkQ,h0,h18,h19,hlt,hix,zcP,hg',zis,hin,hw]
   refine ih (i+1) hd' _ g H K ?_ ?_ ?_ ?_ ?_
   ·simp [h0]
   ·simp [h18]
   ·simp
   ·intro l' h1 h2; exact hr l' (by simp [hin,h1]) h2
   ·intro l' h1; exact he l' (by simp [hin,h1])
theorem zdt (a:ByteArray) (ha:a.size≤9223372036854775807) (H:GH):ecall T zoJ [.str a] H=some (.bool (zaC a.data.toList),H):=by
 apply optW.eq
 rw [zad zC3 rfl (by simp [zkR]),zab]
 have hsz:a.size=a.data.toList.length:=by simp
 unfold zaC
 cases hl:a.data.toList with
 | nil =>
  have ha0:a=⟨#[]⟩:=by
   rcases a with ⟨d⟩
   have:d = #[]:=Array.toList_inj.1 hl
   rw [this]
  simp [zkR,zrH,ha0]
 | cons c cs =>
  have hcl:¬ a=⟨#[]⟩:=by intro h; rw [h] at hl; cases hl
  by_cases h16:(16:Int)<a.size
  ·have:¬ cs.length+1≤16:=by rw [hl] at hsz; simp at hsz; omega
   simp [zkR,zrH,hcl,h16,this]
  ·have h16':cs.length+1≤16:=by rw [hl] at hsz; simp at hsz; omega
   have hix:gIx a.size (.int .i64 0)=some 0:=znu (i:=0) (by rw [hl] at hsz; simp at hsz; omega)
   have hg0:a.data[0]?=some c:=by
    have:a.data.toList[0]?=some c:=by rw [hl]; rfl
    simpa using this
   cases hlet:zcR c
   ·simp [zkR,zrH,hcl,h16,hix,zcP,hg0,zb9,hlet]
   ·simp [zkR,zrH,hcl,h16,hix,zcP,hg0,zb9,hlet]
    rw [zay,zar]
    refine zt5 a ha (c::cs) 0 (by simp [hl]) _ _ _ _ ?_ ?_ ?_ ?_ ?_
    ·simp
    ·simp
    ·simp
    ·intro l' h1 h2
     simp [h2]
     intro _; simpa using h1
    ·intro l' h1
     simp
     exact ⟨by omega,by simpa using h1⟩
structure Cls (c:UInt8) (p0 p1 p2 p3 p4 p5 p6 lt inn:Bool):Prop where
 a0:decide ((97:Int)≤c.toNat)=p0
 a1:decide ((c.toNat:Int)≤122)=p1
 a2:decide ((65:Int)≤c.toNat)=p2
 a3:decide ((c.toNat:Int)≤90)=p3
 a4:decide ((48:Int)≤c.toNat)=p4
 a5:decide ((c.toNat:Int)≤57)=p5
 a6:decide ((c.toNat:Int)=95)=p6
 l:zcR c=lt
 n:zdR c=inn
theorem cls (c:UInt8):Cls c false true false true false true false false false∨Cls c false true false true true true false false true∨Cls c false true false true true false false false false ∨
 Cls c false true true true true false false true true∨Cls c false true true false true false false false false∨Cls c false true true false true false true false true ∨
 Cls c true true true false true false false true true∨Cls c true false true false true false false false false:=by
 rcases (by omega:(c.toNat:Int)<48∨(48≤(c.toNat:Int)∧(c.toNat:Int)≤57)∨(58≤(c.toNat:Int)∧(c.toNat:Int)≤64)∨(65≤(c.toNat:Int)∧(c.toNat:Int)≤90)∨(91≤(c.toNat:Int)∧(c.toNat:Int)≤94)∨(c.toNat:Int)=95∨(c.toNat:Int)=96∨(97≤(c.toNat:Int)∧(c.toNat:Int)≤122)∨123≤(c.toNat:Int)) with h | h | h | h | h | h | h | h | h
 ·left; constructor <;> simp [zdR,zcR] <;> omega
 ·right; left; constructor <;> simp [zdR,zcR] <;> omega
 ·right; right; left; constructor <;> simp [zdR,zcR] <;> omega
 ·right; right; right; left; constructor <;> simp [zdR,zcR] <;> omega
 ·right; right; right; right; left; constructor <;> simp [zdR,zcR] <;> omega
 ·right; right; right; right; right; left; constructor <;> simp [zdR,zcR] <;> omega
 ·right; right; right; right; left; constructor <;> simp [zdR,zcR] <;> omega
 ·right; right; right; right; right; right; left; constructor <;> simp [zdR,zcR] <;> omega
 ·right; right; right; right; right; right; right; constructor <;> simp [zdR,zcR] <;> omega
theorem zqs (a:ByteArray) (ha:a.size≤9223372036854775807) (cs:List UInt8):∀ (i:Nat) (_:a.data.toList.drop i=cs) (l:List GV) (g:Nat) (H:GH) (K:GExit × St→Prop)
 (_:0<i) (_:zag l 0=.str a) (_:zag l 3=.int .i64 i)
 (_:∀ l',cs.all zdR=false→zag l' 2=.bool false→K (.ret,⟨⟨l',g⟩,H⟩))
 (_:∀ l',cs.all zdR=true→zag l' 0=.str a→K (.exit 0,⟨⟨l',g⟩,H⟩)),
 optW (erun T (.loop zi3) ⟨⟨l,g⟩,H⟩) K:=by
 induction cs with
 | nil =>
  intro i hd l g H K hi0 h0 h3 hr he
  have hlen:=zdr hd
  have hge:¬ ((i:Int)<a.size):=by
   have:a.size=a.data.toList.length:=by simp
   omega
  rw [zal]
  simp [zi3,h0,h3,hge]
  exact he _ (by simp) (by simp [h0])
 | cons c cs ih =>
  intro i hd l g H K hi0 h0 h3 hr he
  obtain ⟨hg,hi,hd'⟩:=zds hd
  have hsz:a.size=a.data.toList.length:=by simp
  have hlt:(i:Int)<a.size:=by omega
  have hix:=znu hlt
  have hw:IntKind.i64.wrap ((i:Int)+1)=(i:Int)+1:=zam (by omega) (by omega)
  have hg':a.data[i]?=some c:=by simpa using hg
  have hne:¬ ((i:Int)=0):=by omega
  have hne':¬ (i=0):=by omega
  rw [zal,zay]
  rcases cls c with h | h | h | h | h | h | h | h
  all_goals
   obtain ⟨a0,a1,a2,a3,a4,a5,a6,al,an⟩:=h
   simp only [decide_eq_true_eq,decide_eq_false_iff_not] at a0 a1 a2 a3 a4 a5 a6
   simp [zi3,h0,h3,hlt,hix,zcP,hg',a0,a1,a2,a3,a4,a5,a6,hw,hne,hne']
   first
    | exact hr _ (by simp [an]) (by simp)
    | (refine ih (i+1) hd' _ g H K (by omega) ?_ ?_ ?_ ?_
       ·simp [h0]
       ·simp
       ·intro l' h1 h2; exact hr l' (by simp [an,h1]) h2
       ·intro l' h1 h2; exact he l' (by simp [an,h1]) h2)
theorem zf7 (a:ByteArray) (ha:a.size≤9223372036854775807) (H:GH):ecall T zgY [.str a] H=some (.bool (zaC a.data.toList),H):=by
 apply optW.eq
 rw [zad zCF rfl (by simp [zoM]),zab]
 have hsz:a.size=a.data.toList.length:=by simp
 unfold zaC
 cases hl:a.data.toList with
 | nil =>
  have hs0:a.size=0:=by rw [hsz,hl]; rfl
  simp [zoM,zxz,zal,zi3,hs0]
 | cons c cs =>
  have hs1:a.size=cs.length+1:=by rw [hsz,hl]; rfl
  have hlt:(0:Int)<a.size:=by omega
  have hlt':0<a.size:=by omega
  have hix:gIx a.size (.int .i64 0)=some 0:=znu (i:=0) (by omega)
  have hg0:a.data[0]?=some c:=by
   have:a.data.toList[0]?=some c:=by rw [hl]; rfl
   simpa using this
  have hg1:∀ h:0<a.data.size,a.data[0]'h=c:=fun h=>by rw [Array.getElem?_eq_getElem h] at hg0; exact Option.some.inj hg0
  have hw1:IntKind.i64.wrap 1=1:=by decide
  simp [zoM,zxz]
  rw [zay,zar,zal,zay]
  rcases cls c with h | h | h | h | h | h | h | h
  all_goals
   obtain ⟨a0,a1,a2,a3,a4,a5,a6,al,an⟩:=h
   simp only [decide_eq_true_eq,decide_eq_false_iff_not] at a0 a1 a2 a3 a4 a5 a6
   simp [zi3,hlt,hlt',hix,zcP,hg0,hg1,a0,a1,a2,a3,a4,a5,a6,hw1,al]
   try
    refine zqs a ha cs 1 (by simp [hl]) _ _ _ _ (by omega) ?_ ?_ ?_ ?_
    ·simp
    ·simp
    ·intro l' h1 h2
     simp [h2]
     intro _ _; simpa using h1
    ·intro l' h1 h2
     have h1':∀ x∈cs,zdR x=true:=by simpa using h1
     by_cases h16:(a.size:Int)≤16
     ·have h16':cs.length≤15:=by omega
      have hge1:(1:Int)≤a.size:=by omega
      simp [h2,h16,hge1,h16',an]
      first | exact h1' | exact ⟨by omega,h1'⟩ | (intro x hx; exact h1' x hx)
     ·have h16':¬ cs.length≤15:=by omega
      have hge1:(1:Int)≤a.size:=by omega
      simp [h2,h16,hge1,h16']
def zwU (v:GV) (s g' off g:Nat) (H:GH):Option Eff :=
 match v with
 | .siter g'' t pos=>if g''=g'∧off=0 then
  if pos<t.size then
   some ⟨.tup [.bool true,.int .i64 pos,.int .i32 (Utf8.decode t pos).1],some (s,.siter g' t (pos+(Utf8.decode t pos).2)),H,g⟩
  else some ⟨.tup [.bool false],none,H,g⟩
  else none
 | _=>none
theorem zet {call:Nat→List GV→GH→Option (GV × GH)} (l:List GV) (g s g' o:Nat) (H:GH):zao call .next [.laddr s g' o] ⟨l,g⟩ H=zwU (zag l s) s g' o g H:=by
 simp only [zao,zwU]
 generalize zag l s=v
 cases v <;> try rfl
theorem zc6 (s g' g:Nat) (t:ByteArray) (pos:Nat) (H:GH):zwU (.siter g' t pos) s g' 0 g H=if pos<t.size then
 some ⟨.tup [.bool true,.int .i64 pos,.int .i32 (Utf8.decode t pos).1],some (s,.siter g' t (pos+(Utf8.decode t pos).2)),H,g⟩
 else some ⟨.tup [.bool false],none,H,g⟩:=by simp [zwU]
def okc (c:UInt8):Bool:=decide (32≤c.toNat∧c.toNat≤126)
theorem zqt (a:ByteArray) (cs:List UInt8):∀ (i:Nat) (_:a.data.toList.drop i=cs) (l:List GV) (g g':Nat) (H:GH) (K:GExit × St→Prop)
 (_:zag l 0=.str a) (_:zag l 6=.siter g' a i)
 (_:∀ l',cs.all okc=false→zag l' 2=.bool false→K (.ret,⟨⟨l',g⟩,H⟩))
 (_:∀ l',cs.all okc=true→zag l' 0=.str a→K (.exit 0,⟨⟨l',g⟩,H⟩)),
 optW (erun T (.loop zhw) ⟨⟨l,g⟩,H⟩) K:=by
 induction cs with
 | nil =>
  intro i hd l g g' H K h0 h6 hr he
  have hlen:=zdr hd
  have hge:¬ (i<a.size):=by
   have:a.size=a.data.toList.length:=by simp
   omega
  rw [zal]
  simp [zhw,h0,h6,zet,zc6,hge]
  exact he _ (by simp) (by simp [h0])
 | cons c cs ih =>
  intro i hd l g g' H K h0 h6 hr he
  obtain ⟨hg,hi,hd'⟩:=zds hd
  have hsz:a.size=a.data.toList.length:=by simp
  have hlt:i<a.size:=by omega
  have hgi:a[i]'hlt=c:=by
   have h1:a[i]?=some c:=by rw [zcP]; exact hg
   rw [getElem?_pos a i hlt] at h1
   exact Option.some.inj h1
  rw [zal,zay]
  by_cases h128:c.toNat<128
  ·have hdec:=decode_ascii a i hlt (by rw [hgi]; exact h128)
   rw [hgi] at hdec
   by_cases h1:(c.toNat:Int)<32
   ·have hk:okc c=false:=by simp [okc]; omega
    have h1':c.toNat<32:=by omega
    simp [zhw,h0,h6,zet,zc6,hlt,hdec,h1,h1']
    exact hr _ (by simp [hk]) (by simp)
   ·have h1':¬ c.toNat<32:=by omega
    by_cases h2:(126:Int)<c.toNat
    ·have h2':126<c.toNat:=by omega
     have hk:okc c=false:=by simp [okc]; omega
     simp [zhw,h0,h6,zet,zc6,hlt,hdec,h1,h1',h2,h2']
     exact hr _ (by simp [hk]) (by simp)
    ·have h2':¬ 126<c.toNat:=by omega
     have hk:okc c=true:=by simp [okc]; omega
     simp [zhw,h0,h6,zet,zc6,hlt,hdec,h1,h1',h2,h2']
     refine ih (i+1) hd' _ g g' H K ?_ ?_ ?_ ?_
     ·simp [h0]
     ·simp
     ·intro l' h1 h2; exact hr l' (by simp [hk,h1]) h2
     ·intro l' h1 h2; exact he l' (by simp [hk,h1]) h2
  ·have hdec:=(decode_high a i hlt (by rw [hgi]; omega)).1
   have hk:okc c=false:=by simp [okc]; omega
   have h1:¬ ((Utf8.decode a i).1:Int)<32:=by omega
   have h2:(126:Int)<(Utf8.decode a i).1:=by omega
   have h1':¬ ((Utf8.decode a i).1)<32:=by omega
   have h2':126<(Utf8.decode a i).1:=by omega
   simp [zhw,h0,h6,zet,zc6,hlt,h1,h2,h1',h2']
   exact hr _ (by simp [hk]) (by simp)
theorem znv (a:ByteArray) (H:GH):ecall T zu5 [.str a] H=some (.bool (zjC a.data.toList),H):=by
 apply optW.eq
 rw [zad zC2 rfl (by simp [zrG]),zab]
 have hsz:a.size=a.data.toList.length:=by simp
 have hp:zjC a.data.toList=(a.data.toList.all okc&&decide (a.data.toList.length≤64)):=rfl
 rw [hp]
 simp only [zrG,zAb]
 simp
 rw [zay,zar]
 refine zqt a a.data.toList 0 (by simp) _ _ 0 _ _ ?_ ?_ ?_ ?_
 ·simp
 ·simp
 ·intro l' h1 h2
  simp [h2]
  intro h; simp [h] at h1
 ·intro l' h1 h2
  by_cases h64:(a.size:Int)≤64
  ·simp [h2,h64]; exact ⟨by simpa using h1,by omega⟩
  ·simp [h2,h64]; intro _; omega
theorem znw (a:ByteArray) (ha:a.size≤9223372036854775807) (cs:List UInt8):∀ (i:Nat) (_:a.data.toList.drop i=cs) (l:List GV) (g:Nat) (H:GH) (K:GExit × St→Prop)
 (_:zag l 0=.str a) (_:zag l 3=.int .i64 i)
 (_:∀ l',cs.all okc=false→zag l' 2=.bool false→K (.ret,⟨⟨l',g⟩,H⟩))
 (_:∀ l',cs.all okc=true→zag l' 0=.str a→K (.exit 0,⟨⟨l',g⟩,H⟩)),
 optW (erun T (.loop zi2) ⟨⟨l,g⟩,H⟩) K:=by
 induction cs with
 | nil =>
  intro i hd l g H K h0 h3 hr he
  have hlen:=zdr hd
  have hge:¬ ((i:Int)<a.size):=by
   have:a.size=a.data.toList.length:=by simp
   omega
  rw [zal]
  simp [zi2,h0,h3,hge]
  exact he _ (by simp) (by simp [h0])
 | cons c cs ih =>
  intro i hd l g H K h0 h3 hr he
  obtain ⟨hg,hi,hd'⟩:=zds hd
  have hsz:a.size=a.data.toList.length:=by simp
  have hlt:(i:Int)<a.size:=by omega
  have hix:=znu hlt
  have hw:IntKind.i64.wrap ((i:Int)+1)=(i:Int)+1:=zam (by omega) (by omega)
  have hg':a.data[i]?=some c:=by simpa using hg
  rw [zal,zay]
  by_cases h1:(c.toNat:Int)<32
  ·have hk:okc c=false:=by simp [okc]; omega
   have h1':c.toNat<32:=by omega
   simp [zi2,h0,h3,hlt,hix,zcP,hg',h1,h1']
   exact hr _ (by simp [hk]) (by simp)
  ·have h1':¬ c.toNat<32:=by omega
   by_cases h2:(126:Int)<c.toNat
   ·have h2':126<c.toNat:=by omega
    have hk:okc c=false:=by simp [okc]; omega
    simp [zi2,h0,h3,hlt,hix,zcP,hg',h1,h1',h2,h2']
    exact hr _ (by simp [hk]) (by simp)
   ·have h2':¬ 126<c.toNat:=by omega
    have hk:okc c=true:=by simp [okc]; omega
    simp [zi2,h0,h3,hlt,hix,zcP,hg',h1,h1',h2,h2',hw]
    refine ih (i+1) hd' _ g H K ?_ ?_ ?_ ?_
    ·simp [h0]
    ·simp
    ·intro l' h1 h2; exact hr l' (by simp [hk,h1]) h2
    ·intro l' h1 h2; exact he l' (by simp [hk,h1]) h2
theorem zt6 (a:ByteArray) (ha:a.size≤9223372036854775807) (H:GH):ecall T zuT [.str a] H=some (.bool (zjC a.data.toList),H):=by
 apply optW.eq
 rw [zad zCE rfl (by simp [zrt]),zab]
 have hsz:a.size=a.data.toList.length:=by simp
 have hp:zjC a.data.toList=(a.data.toList.all okc&&decide (a.data.toList.length≤64)):=rfl
 rw [hp]
 simp only [zrt,zzT]
 simp
 rw [zay,zar]
 refine znw a ha a.data.toList 0 (by simp) _ _ _ _ ?_ ?_ ?_ ?_
 ·simp
 ·simp
 ·intro l' h1 h2
  simp [h2]
  intro h; simp [h] at h1
 ·intro l' h1 h2
  by_cases h64:(a.size:Int)≤64
  ·simp [h2,h64]; exact ⟨by simpa using h1,by omega⟩
  ·simp [h2,h64]; intro _; omega
theorem zDL (v:BitVec 64):(v &&& ~~~ 1#64=0#64)↔v=0#64∨v=1#64:=by
 constructor
 ·intro h
  have hb:∀ i,1≤i→v.getLsbD i=false:=by
   intro i hi
   by_cases h64:i<64
   ·have h2:(v &&& ~~~ 1#64).getLsbD i=(0#64).getLsbD i:=by rw [h]
    have h3:¬ i=0:=by omega
    rw [BitVec.getLsbD_and,BitVec.getLsbD_not,BitVec.getLsbD_one] at h2
    have e1:(decide (i<64)&&!(decide (0<64)&&decide (i=0)))=true:=by simp [h64,h3]
    rw [e1,Bool.and_true] at h2
    rw [h2]; simp
   ·exact BitVec.getLsbD_of_ge v i (by omega)
  cases h0:v.getLsbD 0
  ·left
   apply BitVec.eq_of_getLsbD_eq
   intro i hi
   rcases Nat.eq_zero_or_pos i with rfl | hp
   ·rw [h0]; rfl
   ·rw [hb i hp]; simp
  ·right
   apply BitVec.eq_of_getLsbD_eq
   intro i hi
   rcases Nat.eq_zero_or_pos i with rfl | hp
   ·rw [h0]; rfl
   ·rw [hb i hp]
    have h3:¬ i=0:=by omega
    simp [BitVec.getLsbD_one,h3]
 ·rintro (rfl | rfl) <;> decide
theorem zyU (n:Int) (h1 : -9223372036854775808≤n) (h2:n≤9223372036854775807):∃ x,zjf .andNot .i64 n 1=some (.int .i64 x)∧(x=0↔(n=0∨n=1)):=by
 have e2:zjf .andNot .i64 n 1=some (.int .i64 (IntKind.i64.wrap ((BitVec.ofInt 64 n &&& ~~~ BitVec.ofInt 64 1).toNat:Int))):=rfl
 refine ⟨_,e2, ?_⟩
 have hlt:=(BitVec.ofInt 64 n &&& ~~~ BitVec.ofInt 64 1).isLt
 have e:(BitVec.ofInt 64 n &&& ~~~ BitVec.ofInt 64 1)=0#64↔(n=0∨n=1):=by
  have e1:BitVec.ofInt 64 1=1#64:=by decide
  rw [e1,zDL]
  have hn:∀ m:Nat,m<2→(BitVec.ofInt 64 n=BitVec.ofNat 64 m↔n=m):=by
   intro m hm
   constructor
   ·intro h
    have:=congrArg BitVec.toNat h
    rw [BitVec.toNat_ofInt,BitVec.toNat_ofNat] at this
    omega
   ·rintro rfl
    apply BitVec.eq_of_toNat_eq
    rw [BitVec.toNat_ofInt,BitVec.toNat_ofNat]
    omega
  have h3:=hn 0 (by omega)
  have h4:=hn 1 (by omega)
  rw [h3,h4]
  simp
 rw [← e]
 generalize (BitVec.ofInt 64 n &&& ~~~ BitVec.ofInt 64 1)=w at *
 rw [IntKind.wrap_i64]
 constructor
 ·intro h
  apply BitVec.eq_of_toNat_eq
  simp
  omega
 ·rintro rfl; decide
theorem zBI (a b c:ByteArray) (t:Tag) (ha:a.size≤1073741824) (hb:b.size≤1073741824) (hc:c.size≤1073741824) (H:GH):ecall T zge [.sl 1 [.str a,.str b,.str c] t] H=some (.bool (zaC a.data.toList&&zaC b.data.toList&&zaC c.data.toList),H):=by
 apply optW.eq
 rw [zad zAt rfl (by simp [ziL]),zab]
 have w1:IntKind.i64.wrap 1=1:=by decide
 have w2:IntKind.i64.wrap 2=2:=by decide
 have w3:IntKind.i64.wrap 3=3:=by decide
 have na:=zdt a (by omega) H
 have nb:=zdt b (by omega) H
 have nc:=zdt c (by omega) H
 cases xa:zaC a.data.toList <;> rw [xa] at na
 ·simp [ziL,zoU,zal,zfy,gIx,w1,w2,w3,na]
 ·cases xb:zaC b.data.toList <;> rw [xb] at nb
  ·simp [ziL,zoU,zal,zfy,gIx,w1,w2,w3,na,nb]
  ·cases xc:zaC c.data.toList <;> rw [xc] at nc
   ·simp [ziL,zoU,zal,zfy,gIx,w1,w2,w3,na,nb,nc]
   ·simp [ziL,zoU,zal,zfy,gIx,w1,w2,w3,na,nb,nc]
theorem zt7 (s:ByteArray) (hs:s.size≤1073741824) (H:GH):∃ parts:List ByteArray,parts.map (·.data.toList)=zbQ 62 s.data.toList∧ecall T zxw [.str s,.str ⟨#[62]⟩] H=some (.sl 1 (parts.map .str) .exact,H):=by
 refine ⟨Lib.splitB ⟨#[62]⟩ 0 (Lib.countB s ⟨#[62]⟩) s, ?_, ?_⟩
 ·rw [Lib.splitB_data]
  exact zlZ 62 s.data.toList
 ·rw [zc4 zDa (by decide) (by simp [zvh])]
  have:s.size<4294967281∧1≤(⟨#[62]⟩:ByteArray).size:=⟨by omega,by decide⟩
  simp only [ziz,zmI,zsx,zvh,if_pos this]
  rfl
theorem zit (c:UInt8):∀ (l:List UInt8) (p:List UInt8),p∈zbQ c l→p.length≤l.length
 | [],p,h=>by simp [zbQ] at h; subst h; simp
 | b::l,p,h=>by
  have ih:=zit c l
  unfold zbQ at h
  split at h
  ·rcases List.mem_cons.1 h with rfl | h
   ·simp
   ·have:=ih p h; simp; omega
  ·split at h
   ·simp at h; subst h; simp
   ·rename_i q qs hq
    rcases List.mem_cons.1 h with rfl | h
    ·have:=ih q (by rw [hq]; simp); simp; omega
    ·have:=ih p (by rw [hq]; simp [h]); simp; omega
theorem zqu (k n:Int) (s:ByteArray) (hs:s.size≤1073741824) (H:GH):∃ x y z,ecall T zq2 [.agg [.int .i64 k,.int .i64 n,.str s]] H=some (.tup [.agg [.str x,.str y,.str z],.bool (decide (k=5)&&(decide (n=0)&&(zfo s.data.toList).isSome))],H):=by
 obtain ⟨parts,hp,hsp⟩:=zt7 s hs H
 have key:∃ x y z,optW (ecall T zq2 [.agg [.int .i64 k,.int .i64 n,.str s]] H) fun r=>r=(.tup [.agg [.str x,.str y,.str z],.bool (decide (k=5)&&(decide (n=0)&&(zfo s.data.toList).isSome))],H):=by
  rw [zad zC4 rfl (by simp [zjT])]
  by_cases hk:k=5
  ·by_cases hn:n=0
   ·have hsize:∀ p∈parts,p.size≤1073741824:=by
     intro p hpm
     have h1:p.data.toList∈zbQ 62 s.data.toList:=by rw [← hp]; exact List.mem_map_of_mem hpm
     have h2:=zit 62 _ _ h1
     have e1:p.size=p.data.toList.length:=by simp
     have e2:s.size=s.data.toList.length:=by simp
     omega
    by_cases h3:parts.length=3
    ·obtain ⟨a,b,c,rfl⟩:∃ a b c,parts=[a,b,c]:=by
      match parts,h3 with
      | [a,b,c],_=>exact ⟨a,b,c,rfl⟩
     have hna:=zBI a b c .exact (hsize a (by simp)) (hsize b (by simp)) (hsize c (by simp)) H
     simp only [List.map_cons,List.map_nil] at hp hsp
     have hlk:(zfo s.data.toList).isSome=(zaC a.data.toList&&zaC b.data.toList&&zaC c.data.toList):=by
      unfold zfo
      rw [← hp]
      simp only
      split <;> simp_all
     rw [hlk]
     cases hx:(zaC a.data.toList&&zaC b.data.toList&&zaC c.data.toList) <;> rw [hx] at hna
     ·refine ⟨⟨#[]⟩,⟨#[]⟩,⟨#[]⟩, ?_⟩
      rw [zab]
      simp [zjT,zoT,hk,hn,hsp,hna,za6,zae]
     ·refine ⟨a,c,b, ?_⟩
      rw [zab]
      simp [zjT,zoT,hk,hn,hsp,hna,za6,zae,gIx]
    ·have hlk:(zfo s.data.toList).isSome=false:=by
      unfold zfo
      rw [← hp]
      split
      ·rename_i a b c h
       have:=congrArg List.length h
       simp at this
       exact absurd this h3
      ·rfl
     have h3':¬ ((parts.length:Int)=3):=by omega
     refine ⟨⟨#[]⟩,⟨#[]⟩,⟨#[]⟩, ?_⟩
     rw [zab,hlk]
     simp [zjT,zoT,hk,hn,hsp,za6,zae,h3',h3]
   ·refine ⟨⟨#[]⟩,⟨#[]⟩,⟨#[]⟩, ?_⟩
    rw [zab]
    simp [zjT,zoT,hk,hn,hsp,za6,zae]
  ·refine ⟨⟨#[]⟩,⟨#[]⟩,⟨#[]⟩, ?_⟩
   rw [zab]
   simp [zjT,zoT,hk,hsp,za6,zae]
 obtain ⟨x,y,z,h⟩:=key
 exact ⟨x,y,z,optW.eq h⟩
theorem zlY (s:ByteArray):s.data.toList=[]↔s=⟨#[]⟩:=by
 constructor
 ·intro h
  rcases s with ⟨d⟩
  have:d = #[]:=Array.toList_inj.1 h
  rw [this]
 ·rintro rfl; rfl
theorem ziu (k n:Int) (s:ByteArray) (hs:(1≤k∧k≤3)∨s.size≤1073741824) (hn1 : -9223372036854775808≤n) (hn2:n≤9223372036854775807) (H:GH) :
 ecall T zqV [.agg [.int .i64 k,.int .i64 n,.str s]] H=some (.bool (zdV k n s.data.toList),H):=by
 apply optW.eq
 rw [zad zCP rfl (by simp [zgh]),zab]
 unfold zdV
 simp only [zlY]
 by_cases h0:k=0
 ·subst h0
  by_cases hn:n=0 <;> simp [zgh,ziG,hn]
 ·by_cases h1:k=1
  ·subst h1
   obtain ⟨x,hx,hx0⟩:=zyU n hn1 hn2
   by_cases hx1:x=0
   ·have:=hx0.1 hx1
    simp [zgh,ziG,hx,hx1,this]
   ·have:¬ (n=0∨n=1):=fun h=>hx1 (hx0.2 h)
    simp [zgh,ziG,hx,hx1,this]
  ·by_cases h2:k=2
   ·subst h2
    by_cases ha : -1099511627776≤n
    ·by_cases hb:n≤1099511627776 <;> simp [zgh,ziG,ha,hb]
    ·simp [zgh,ziG,ha]
   ·by_cases h3:k=3
    ·subst h3
     by_cases hn:n=0 <;> simp [zgh,ziG,hn,znv]
    ·by_cases h4:k=4
     ·subst h4
      have:=zdt s (by omega) H
      by_cases hn:n=0 <;> simp [zgh,ziG,hn,this]
     ·obtain ⟨x,y,z,hl⟩:=zqu k n s (by omega) H
      by_cases h5:k=5
      ·subst h5
       simp [zgh,ziG,hl,zae]
      ·simp [zgh,ziG,h0,h1,h2,h3,h4,h5,hl,zae]
theorem znx (s:ByteArray) (hs:s.size≤1073741824) (cs:List UInt8):∀ (i:Nat) (_:s.data.toList.drop i=cs) (l:List GV) (g:Nat) (H:GH) (K:GExit × St→Prop) (id:Nat) (done:List ByteArray) (cur:ByteArray)
 (_:zag l 0=.str s) (_:zag l 1=.int .u8 62) (_:zag l 5=.hsl id 0 (done.length+1) 1 false) (_:zag l 6=.int .i64 i)
 (_:H.objs[id]?=some (.row 9 ((done++[cur]).map .str))) (_:H.bo≤id) (_:H.bo≤H.objs.length) (_:cur.size+cs.length≤s.size) (_:done.length+cs.length≤s.size)
 (_:∀ (l':List GV) (H':GH) (id':Nat) (parts:List ByteArray) (p:List UInt8) (ps:List (List UInt8)),zbQ 62 cs=p::ps→parts.map (fun b:ByteArray=>b.data.toList)=done.map (fun b:ByteArray=>b.data.toList)++(cur.data.toList++p)::ps →
   zag l' 5=.hsl id' 0 parts.length 1 false→H'.objs[id']?=some (.row 9 (parts.map .str))→K (.exit 0,⟨⟨l',g⟩,H'⟩)),
 optW (erun T (.loop zkM) ⟨⟨l,g⟩,H⟩) K:=by
 induction cs with
 | nil =>
  intro i hd l g H K id done cur h0 h1 h5 h6 hob hbo hbl hc1 hc2 he
  have hlen:=zdr hd
  have hge:¬ ((i:Int)<s.size):=by
   have:s.size=s.data.toList.length:=by simp
   omega
  rw [zal]
  simp [zkM,h0,h6,hge]
  exact he _ _ id (done++[cur]) [] [] rfl (by simp) (by simp [h5]) hob
 | cons c cs ih =>
  intro i hd l g H K id done cur h0 h1 h5 h6 hob hbo hbl hc1 hc2 he
  obtain ⟨hg,hi,hd'⟩:=zds hd
  have hsz:s.size=s.data.toList.length:=by simp
  have hlt:(i:Int)<s.size:=by omega
  have hix:=znu hlt
  have hw:IntKind.i64.wrap ((i:Int)+1)=(i:Int)+1:=zam (by omega) (by omega)
  have hg':s.data[i]?=some c:=by simpa using hg
  rw [zal,zay]
  simp only [List.length_cons] at hc1 hc2
  obtain ⟨p,ps,hsp⟩:∃ p ps,zbQ 62 cs=p::ps:=by
   cases cs with
   | nil=>exact ⟨_,_,rfl⟩
   | cons b l =>
    unfold zbQ
    split
    ·exact ⟨_,_,rfl⟩
    ·split <;> exact ⟨_,_,rfl⟩
  by_cases hc:c=62
  ·subst hc
   have happ:=zdN (bytes:=16) (ag:=false) (len:=done.length+1) (sz:=1) (x:=.sl 1 [.str ⟨#[]⟩] .exact) (news:=[.str ⟨#[]⟩]) hob (by simp [zbK]) (by simp) hbo (by simp [room]; omega) (by simp [maxLen]; omega) (by simp)
   simp [zkM,h0,h1,h5,h6,hlt,hix,zcP,hg',hw,zaj,happ]
   refine ih (i+1) hd' _ g _ K H.objs.length (done++[cur]) ⟨#[]⟩ ?_ ?_ ?_ ?_ ?_ ?_ ?_ ?_ ?_ ?_
   ·simp [h0]
   ·simp [h1]
   ·simp
   ·simp
   ·simp
   ·exact hbl
   ·first | omega | (simp; omega) | simp
   ·have:(⟨#[]⟩:ByteArray).size=0:=rfl
    first | omega | (simp; omega) | simp
   ·first | omega | (simp; omega) | simp
   ·intro l' H' id' parts p' ps' e1 e2 e3 e4
    refine he l' H' id' parts [] (p'::ps') (by simp [zbQ,e1]) ?_ e3 e4
    rw [e2]; simp
  ·have hcn:¬ ((c.toNat:Int)=62):=fun h=>hc (u8_ne.1 (by simpa using h))
   have hcn':¬ (c.toNat=62):=by omega
   have hwd:IntKind.i64.wrap (done.length:Int)=done.length:=zam (by omega) (by omega)
   have hgd:gIx (done.length+1) (.int .i64 (done.length:Int))=some done.length:=by simp only [gIx]; rw [if_pos (by omega)]; simp
   have hob':H.objs[id]?=some (.row 9 (done.map GV.str++[.str cur])):=by simpa using hob
   have hpt:(done.map GV.str++[.str cur])[done.length]?=some (.str cur):=by simp
   have hsp2:∀ x,zae (done.map GV.str++[.str cur]) done.length [x]=some (done.map GV.str++[x]):=by
    intro x
    simp [zae]
   have hgb:zaO s.size true true false [.int .i64 (i:Int),.int .i64 ((i:Int)+1)]=some (i,i+1,none):=by
    have e1:zce s.size (.int .i64 ((i:Int)+1))=some (i+1):=by simp only [zce]; rw [if_pos (by omega)]; congr 1
    have e2:zce (i+1) (.int .i64 (i:Int))=some i:=by simp only [zce]; rw [if_pos (by omega)]; simp
    simp [zaO,e1,e2]
   have hxs:(s.extract i (i+1)).data.toList=[c]:=by
    rw [Lib.extract_data,show i+1 - i=1 by omega,hd]; rfl
   have hxz:(s.extract i (i+1)).size=1:=by
    have hbz:∀ b:ByteArray,b.size=b.data.toList.length:=fun b=>by simp
    rw [hbz,hxs]; rfl
   have hadd:zg7 .add cur (s.extract i (i+1))=some (.str (cur++s.extract i (i+1))):=by
    simp only [zg7]; rw [if_pos (by rw [hxz]; simp [maxLen]; omega)]
   have hidl:id<H.objs.length:=(List.getElem?_eq_some_iff.1 hob).1
   simp [zkM,h0,h1,h5,h6,hlt,hix,zcP,hg',hw,hcn,hcn',hob',hwd,hgd,hpt,hsp2,hgb,hadd,hbo]
   refine ih (i+1) hd' _ g _ K id done (cur++s.extract i (i+1)) ?_ ?_ ?_ ?_ ?_ ?_ ?_ ?_ ?_ ?_
   ·simp [h0]
   ·simp [h1]
   ·simp [h5]
   ·simp
   ·simp [hidl]
   ·exact hbo
   ·simp; omega
   ·simp [hxz]; omega
   ·omega
   ·intro l' H' id' parts p' ps' e1 e2 e3 e4
    refine he l' H' id' parts (c::p') ps' (by simp [zbQ,e1,hc]) ?_ e3 e4
    rw [e2]; simp [hxs]; rw [hd]; rfl
theorem zt8 (c:UInt8) (l:List UInt8):∃ p ps,zbQ c l=p::ps:=by
 cases l with
 | nil=>exact ⟨_,_,rfl⟩
 | cons b l =>
  unfold zbQ
  split
  ·exact ⟨_,_,rfl⟩
  ·split <;> exact ⟨_,_,rfl⟩
theorem zt9 (s:ByteArray) (hs:s.size≤1073741824) (H:GH) (hb:H.bo≤H.objs.length):∃ (id:Nat) (parts:List ByteArray) (H':GH),parts.map (fun b:ByteArray=>b.data.toList)=zbQ 62 s.data.toList∧H'.objs[id]?=some (.row 9 (parts.map .str)) ∧
 ecall T zqY [.str s,.int .u8 62] H=some (.hsl id 0 parts.length 1 false,H'):=by
 have key:optW (ecall T zqY [.str s,.int .u8 62] H) fun r=>∃ (id:Nat) (parts:List ByteArray) (H':GH),parts.map (fun b:ByteArray=>b.data.toList)=zbQ 62 s.data.toList∧H'.objs[id]?=some (.row 9 (parts.map .str))∧r=(.hsl id 0 parts.length 1 false,H'):=by
  rw [zad zCU rfl (by simp [zrA]),zab]
  simp only [zrA,zz3]
  simp [zaj]
  rw [zay,zar]
  refine znx s hs s.data.toList 0 (by simp) _ _ _ _ H.objs.length [] ⟨#[]⟩ ?_ ?_ ?_ ?_ ?_ ?_ ?_ ?_ ?_ ?_
  ·simp
  ·simp
  ·simp
  ·simp
  ·simp [GH.newObj]
  ·exact hb
  ·simp [GH.newObj]; omega
  ·have:(⟨#[]⟩:ByteArray).size=0:=rfl
   simp [this]
  ·simp
  ·intro l' H' id' parts p ps e1 e2 e3 e4
   simp [e3]
   refine ⟨id',parts, ?_,e4,rfl,rfl⟩
   rw [e1]; simpa using e2
 obtain ⟨v,h,id,parts,H',h1,h2,h3⟩:=key
 exact ⟨id,parts,H',h1,h2,by rw [h,h3]⟩
theorem zgI (c:UInt8):∀ l:List UInt8,((zbQ c l).map List.length).sum+(zbQ c l).length=l.length+1
 | []=>rfl
 | b::l=>by
  have ih:=zgI c l
  obtain ⟨p,ps,h⟩:=zt8 c l
  unfold zbQ
  rw [h] at ih ⊢
  simp only [List.map_cons,List.sum_cons,List.length_cons] at ih
  split
  ·simp; omega
  ·simp; omega
theorem zqv (l:List UInt8) (h:60<l.length):(zfo l).isSome=false:=by
 unfold zfo
 have hs:=zgI 62 l
 split
 ·rename_i a b c hl
  rw [hl] at hs
  simp only [List.map_cons,List.map_nil,List.sum_cons,List.sum_nil,List.length_cons,List.length_nil] at hs
  split
  ·rename_i hn
   exfalso
   simp only [zaC,Bool.and_eq_true,decide_eq_true_eq] at hn
   omega
  ·rfl
 ·rfl
theorem zeI (a b:Nat) (x y z:ByteArray) (c:Bool):zaI a b 100 (.tup [.agg [.str x,.str y,.str z],.bool c])=some (.tup [.agg [.str x,.str y,.str z],.bool c]):=rfl
theorem zwV (s:ByteArray) (H:GH):∃ x y z,ecall T zqT [.str s] H=some (.tup [.agg [.str x,.str y,.str z],.bool (zfo s.data.toList).isSome],H):=by
 have hsz:s.size=s.data.toList.length:=by simp
 have key:∃ x y z,optW (ecall T zqT [.str s] H) fun r=>r=(.tup [.agg [.str x,.str y,.str z],.bool (zfo s.data.toList).isSome],H):=by
  rw [zci zCG rfl (by simp [ziE])]
  by_cases h60:(60:Int)<s.size
  ·refine ⟨⟨#[]⟩,⟨#[]⟩,⟨#[]⟩, ?_⟩
   have h60':60<s.size:=by omega
   rw [zab,zqv _ (by omega)]
   simp [ziE,zmj,h60,h60',za6,zae,zeI]
  ·have h60':¬ 60<s.size:=by omega
   obtain ⟨id,parts,H',hp,hob,hsp⟩:=zt9 s (by omega) H.over (by simp [GH.over])
   by_cases h3:parts.length=3
   ·obtain ⟨a,b,c,rfl⟩:∃ a b c,parts=[a,b,c]:=by
     match parts,h3 with
     | [a,b,c],_=>exact ⟨a,b,c,rfl⟩
    simp only [List.map_cons,List.map_nil,List.length_cons,List.length_nil] at hp hsp hob
    have hsum:=zgI 62 s.data.toList
    rw [← hp] at hsum
    simp only [List.map_cons,List.map_nil,List.sum_cons,List.sum_nil,List.length_cons,List.length_nil] at hsum
    have hlen:∀ b:ByteArray,b.size=b.data.toList.length:=fun b=>by simp
    have ha:=hlen a; have hb:=hlen b; have hc:=hlen c
    have hlk:(zfo s.data.toList).isSome=(zaC a.data.toList&&zaC b.data.toList&&zaC c.data.toList):=by
     unfold zfo
     rw [← hp]
     simp only
     cases hh:(zaC a.data.toList&&zaC b.data.toList&&zaC c.data.toList) <;> simp only [if_true,if_false,Bool.false_eq_true] <;> rfl
    have na:=zf7 a (by omega) H'
    have nb:=zf7 b (by omega) H'
    have nc:=zf7 c (by omega) H'
    rw [hlk]
    have e1:(0+1+1+1:Nat)=3:=rfl
    rw [e1] at hsp
    cases xa:zaC a.data.toList <;> rw [xa] at na
    ·refine ⟨⟨#[]⟩,⟨#[]⟩,⟨#[]⟩, ?_⟩
     rw [zab]
     simp [ziE,zmj,h60,h60',hsp,hob,gIx,na,za6,zae,zeI]
    ·cases xb:zaC b.data.toList <;> rw [xb] at nb
     ·refine ⟨⟨#[]⟩,⟨#[]⟩,⟨#[]⟩, ?_⟩
      rw [zab]
      simp [ziE,zmj,h60,h60',hsp,hob,gIx,na,nb,za6,zae,zeI]
     ·cases xc:zaC c.data.toList <;> rw [xc] at nc
      ·refine ⟨⟨#[]⟩,⟨#[]⟩,⟨#[]⟩, ?_⟩
       rw [zab]
       simp [ziE,zmj,h60,h60',hsp,hob,gIx,na,nb,nc,za6,zae,zeI]
      ·refine ⟨a,c,b, ?_⟩
       rw [zab]
       simp [ziE,zmj,h60,h60',hsp,hob,gIx,na,nb,nc,za6,zae,zeI]
   ·have hlk:(zfo s.data.toList).isSome=false:=by
     unfold zfo
     rw [← hp]
     split
     ·rename_i a b c h
      have:=congrArg List.length h
      simp at this
      exact absurd this h3
     ·rfl
    have h3':¬ ((parts.length:Int)=3):=by omega
    refine ⟨⟨#[]⟩,⟨#[]⟩,⟨#[]⟩, ?_⟩
    rw [zab,hlk]
    simp [ziE,zmj,h60,h60',hsp,za6,zae,h3',h3,zeI]
 obtain ⟨x,y,z,h⟩:=key
 exact ⟨x,y,z,optW.eq h⟩
theorem zua (k n:Int) (s:ByteArray) (hs:s.size≤9223372036854775807) (H:GH) :
 ecall T zuP [.agg [.int .i64 k,.int .i64 n,.str s]] H=some (.bool (zdV k n s.data.toList),H):=by
 apply optW.eq
 rw [zad zCr rfl (by simp [zgf]),zab]
 unfold zdV
 simp only [zlY]
 by_cases h0:k=0
 ·subst h0
  by_cases hn:n=0 <;> simp [zgf,ziD,hn]
 ·by_cases h1:k=1
  ·subst h1
   by_cases hn:n=0
   ·simp [zgf,ziD,hn]
   ·by_cases hn1:n=1 <;> simp [zgf,ziD,hn,hn1]
  ·by_cases h2:k=2
   ·subst h2
    by_cases ha : -1099511627776≤n
    ·by_cases hb:n≤1099511627776 <;> simp [zgf,ziD,ha,hb]
    ·simp [zgf,ziD,ha]
   ·by_cases h3:k=3
    ·subst h3
     by_cases hn:n=0 <;> simp [zgf,ziD,hn,zt6 s hs]
    ·by_cases h4:k=4
     ·subst h4
      by_cases hn:n=0 <;> simp [zgf,ziD,hn,zf7 s hs]
     ·by_cases h5:k=5
      ·subst h5
       obtain ⟨x,y,z,hl⟩:=zwV s H
       by_cases hn:n=0 <;> simp [zgf,ziD,hn,hl,zae]
      ·simp [zgf,ziD,h0,h1,h2,h3,h4,h5]
end Go.Proofs.YtchjbidfmhmmhaaGreatDoor
