/- Own work: the zaM machine and what it shows, part Va. -/
import Derived.Test.YtchjbidfmhmmhaaGreatDoorFun
import Derived.Test.YtchjbidfmhmmhaaGreatDoorShF
import Derived.Test.YtchjbidfmhmmhaaGreatDoorVp
import Derived.Laws.RangeString
import Derived.Laws.RangeAny
set_option linter.all false
namespace Go.Proofs.YtchjbidfmhmmhaaGreatDoor
open Go.Sh
set_option maxRecDepth 100000
theorem zci (s:ByteArray) (i:Nat):s[i]?=s.data.toList[i]?:=by
 rcases s with ⟨d⟩
 by_cases h:i<d.size
 ·have h1:(ByteArray.mk d)[i]?=some (d[i]):=by
   rw [getElem?_pos (ByteArray.mk d) i h]; rfl
  rw [h1]; simp [h]
 ·have h1:(ByteArray.mk d)[i]?=none:=getElem?_neg (ByteArray.mk d) i h
  rw [h1]; simp [Nat.not_lt.1 h]
theorem zdn {l:List UInt8} {i:Nat} (h:l.drop i=[]):l.length≤i:=by simpa using h
theorem zdo {l cs:List UInt8} {c:UInt8} {i:Nat} (h:l.drop i=c::cs):l[i]?=some c∧i<l.length∧l.drop (i+1)=cs:=by
 have h1:i<l.length:=by
  rcases Nat.lt_or_ge i l.length with h1 | h1
  ·exact h1
  ·rw [List.drop_eq_nil_of_le h1] at h; cases h
 refine ⟨?_,h1, ?_⟩
 ·have:=congrArg (·[0]?) h
  simpa using this
 ·have:=congrArg List.tail h
  simpa using this
theorem u8_ne {x y:UInt8} : (x.toNat:Int)=y.toNat↔x=y:=by
 constructor
 ·intro h; exact UInt8.toNat_inj.1 (by omega)
 ·rintro rfl; rfl
theorem zcm (c:UInt8) (H:GH):ecall T zlZ [.int .u8 c.toNat] H=some (.bool (zc6 c),H):=by
 apply optW.eq
 rw [zae zEj rfl (by simp [zmh]),zab]
 unfold zc6
 rcases (by omega:(c.toNat:Int)<48∨(48≤(c.toNat:Int)∧(c.toNat:Int)≤57)∨(58≤(c.toNat:Int)∧(c.toNat:Int)≤64)∨(65≤(c.toNat:Int)∧(c.toNat:Int)≤90)∨(91≤(c.toNat:Int)∧(c.toNat:Int)≤94)∨(c.toNat:Int)=95∨(c.toNat:Int)=96∨(97≤(c.toNat:Int)∧(c.toNat:Int)≤122)∨123≤(c.toNat:Int)) with h | h | h | h | h | h | h | h | h
 all_goals
  first | (have a0:(97:Int)≤c.toNat:=by omega) | (have a0:¬ ((97:Int)≤c.toNat):=by omega)
  first | (have a1:(c.toNat:Int)≤122:=by omega) | (have a1:¬ ((c.toNat:Int)≤122):=by omega)
  first | (have a2:(65:Int)≤c.toNat:=by omega) | (have a2:¬ ((65:Int)≤c.toNat):=by omega)
  first | (have a3:(c.toNat:Int)≤90:=by omega) | (have a3:¬ ((c.toNat:Int)≤90):=by omega)
  first | (have a4:(48:Int)≤c.toNat:=by omega) | (have a4:¬ ((48:Int)≤c.toNat):=by omega)
  first | (have a5:(c.toNat:Int)≤57:=by omega) | (have a5:¬ ((c.toNat:Int)≤57):=by omega)
  first | (have a6:(c.toNat:Int)=95:=by omega) | (have a6:¬ ((c.toNat:Int)=95):=by omega)
  simp [zmh,zAb,a0,a1,a2,a3]
  omega
theorem zji (c:UInt8) (H:GH):ecall T zpx [.int .u8 c.toNat] H=some (.bool (zej c),H):=by
 apply optW.eq
 rw [zae zEk rfl (by simp [zhD]),zab]
 unfold zej
 cases hl:zc6 c
 ·rcases (by omega:(c.toNat:Int)<48∨(48≤(c.toNat:Int)∧(c.toNat:Int)≤57)∨(58≤(c.toNat:Int)∧(c.toNat:Int)≤64)∨(65≤(c.toNat:Int)∧(c.toNat:Int)≤90)∨(91≤(c.toNat:Int)∧(c.toNat:Int)≤94)∨(c.toNat:Int)=95∨(c.toNat:Int)=96∨(97≤(c.toNat:Int)∧(c.toNat:Int)≤122)∨123≤(c.toNat:Int)) with h | h | h | h | h | h | h | h | h
  all_goals
   first | (have a0:(97:Int)≤c.toNat:=by omega) | (have a0:¬ ((97:Int)≤c.toNat):=by omega)
   first | (have a1:(c.toNat:Int)≤122:=by omega) | (have a1:¬ ((c.toNat:Int)≤122):=by omega)
   first | (have a2:(65:Int)≤c.toNat:=by omega) | (have a2:¬ ((65:Int)≤c.toNat):=by omega)
   first | (have a3:(c.toNat:Int)≤90:=by omega) | (have a3:¬ ((c.toNat:Int)≤90):=by omega)
   first | (have a4:(48:Int)≤c.toNat:=by omega) | (have a4:¬ ((48:Int)≤c.toNat):=by omega)
   first | (have a5:(c.toNat:Int)≤57:=by omega) | (have a5:¬ ((c.toNat:Int)≤57):=by omega)
   first | (have a6:(c.toNat:Int)=95:=by omega) | (have a6:¬ ((c.toNat:Int)=95):=by omega)
   first
    | (have hv:=zcm c H; rw [h,hl] at hv; have hn:c.toNat=95:=by omega
       simp [zhD,zmi,hv,h,hn]; done)
    | (simp [zhD,zmi,zcm,hl,a4,a5,a6]; done)
    | (simp [zhD,zmi,zcm,hl,a4,a5,a6]; omega)
 ·simp [zhD,zmi,zcm,hl]
theorem zso {a:ByteArray} {i:Nat} (h:(i:Int)<a.size):gIx a.size (.int .i64 i)=some i:=by
 simp only [gIx]; rw [if_pos (by omega)]; simp
theorem zwo (a:ByteArray) (ha:a.size≤9223372036854775807) (cs:List UInt8):∀ (i:Nat) (_:a.data.toList.drop i=cs) (l:List GV) (g:Nat) (H:GH) (K:GExit × St→Prop)
 (_:zai l 0=.str a) (_:zai l 18=.int .i64 a.size) (_:zai l 19=.int .i64 i)
 (_:∀ l',cs.all zej=false→zai l' 2=.bool false→K (.ret,⟨⟨l',g⟩,H⟩))
 (_:∀ l',cs.all zej=true→K (.exit 0,⟨⟨l',g⟩,H⟩)),
 optW (erun T (.loop ziq) ⟨⟨l,g⟩,H⟩) K:=by
 induction cs with
 | nil =>
  intro i hd l g H K h0 h18 h19 hr he
  have hlen:=zdn hd
  have hge:¬ ((i:Int)<a.size):=by
   have:a.size=a.data.toList.length:=by simp
   omega
  rw [zao]
  simp [ziq,h0,h18,h19,hge]
  exact he _ (by simp)
 | cons c cs ih =>
  intro i hd l g H K h0 h18 h19 hr he
  obtain ⟨hg,hi,hd'⟩:=zdo hd
  have hsz:a.size=a.data.toList.length:=by simp
  have hlt:(i:Int)<a.size:=by omega
  have hix:=zso hlt
  have hw:IntKind.i64.wrap ((i:Int)+1)=(i:Int)+1:=zar (by omega) (by omega)
  have hg':a.data[i]?=some c:=by simpa using hg
  rw [zao,zav]
  cases hin:zej c
  ·simp [ziq,h0,h18,h19,hlt,hix,zci,hg',zji,hin]
   exact hr _ (by simp [hin]) (by simp)
  ·simp [ziq,h0,h18,h19,hlt,hix,zci,hg',zji,hin,hw]
   refine ih (i+1) hd' _ g H K ?_ ?_ ?_ ?_ ?_
   ·simp [h0]
   ·simp [h18]
   ·simp
   ·intro l' h1 h2; exact hr l' (by simp [hin,h1]) h2
   ·intro l' h1; exact he l' (by simp [hin,h1])
theorem zdf (a:ByteArray) (ha:a.size≤9223372036854775807) (H:GH):ecall T zij [.str a] H=some (.bool (zaz a.data.toList),H):=by
 apply optW.eq
 rw [zae zEg rfl (by simp [zhC]),zab]
 have hsz:a.size=a.data.toList.length:=by simp
 unfold zaz
 cases hl:a.data.toList with
 | nil =>
  have ha0:a=⟨#[]⟩:=by
   rcases a with ⟨d⟩
   have:d = #[]:=Array.toList_inj.1 hl
   rw [this]
  simp [zhC,zmc,ha0]
 | cons c cs =>
  have hcl:¬ a=⟨#[]⟩:=by intro h; rw [h] at hl; cases hl
  by_cases h16:(16:Int)<a.size
  ·have:¬ cs.length+1≤16:=by rw [hl] at hsz; simp at hsz; omega
   simp [zhC,zmc,hcl,h16,this]
  ·have h16':cs.length+1≤16:=by rw [hl] at hsz; simp at hsz; omega
   have hix:gIx a.size (.int .i64 0)=some 0:=zso (i:=0) (by rw [hl] at hsz; simp at hsz; omega)
   have hg0:a.data[0]?=some c:=by
    have:a.data.toList[0]?=some c:=by rw [hl]; rfl
    simpa using this
   cases hlet:zc6 c
   ·simp [zhC,zmc,hcl,h16,hix,zci,hg0,zcm,hlet]
   ·simp [zhC,zmc,hcl,h16,hix,zci,hg0,zcm,hlet]
    rw [zav,zap]
    refine zwo a ha (c::cs) 0 (by simp [hl]) _ _ _ _ ?_ ?_ ?_ ?_ ?_
    ·simp
    ·simp
    ·simp
    ·intro l' h1 h2
     simp [h2]
     intro _; simpa using h1
    ·intro l' h1
     simp
     exact ⟨by omega,by simpa using h1⟩
structure Cls (c:UInt8) (p0 p1 p2 p3 p4 p5 p6 lt inn:Bool):Prop where
 a0:decide ((97:Int)≤c.toNat)=p0
 a1:decide ((c.toNat:Int)≤122)=p1
 a2:decide ((65:Int)≤c.toNat)=p2
 a3:decide ((c.toNat:Int)≤90)=p3
 a4:decide ((48:Int)≤c.toNat)=p4
 a5:decide ((c.toNat:Int)≤57)=p5
 a6:decide ((c.toNat:Int)=95)=p6
 l:zc6 c=lt
 n:zej c=inn
theorem cls (c:UInt8):Cls c false true false true false true false false false∨Cls c false true false true true true false false true∨Cls c false true false true true false false false false ∨
 Cls c false true true true true false false true true∨Cls c false true true false true false false false false∨Cls c false true true false true false true false true ∨
 Cls c true true true false true false false true true∨Cls c true false true false true false false false false:=by
 rcases (by omega:(c.toNat:Int)<48∨(48≤(c.toNat:Int)∧(c.toNat:Int)≤57)∨(58≤(c.toNat:Int)∧(c.toNat:Int)≤64)∨(65≤(c.toNat:Int)∧(c.toNat:Int)≤90)∨(91≤(c.toNat:Int)∧(c.toNat:Int)≤94)∨(c.toNat:Int)=95∨(c.toNat:Int)=96∨(97≤(c.toNat:Int)∧(c.toNat:Int)≤122)∨123≤(c.toNat:Int)) with h | h | h | h | h | h | h | h | h
 ·left; constructor <;> simp [zej,zc6] <;> omega
 ·right; left; constructor <;> simp [zej,zc6] <;> omega
 ·right; right; left; constructor <;> simp [zej,zc6] <;> omega
 ·right; right; right; left; constructor <;> simp [zej,zc6] <;> omega
 ·right; right; right; right; left; constructor <;> simp [zej,zc6] <;> omega
 ·right; right; right; right; right; left; constructor <;> simp [zej,zc6] <;> omega
 ·right; right; right; right; left; constructor <;> simp [zej,zc6] <;> omega
 ·right; right; right; right; right; right; left; constructor <;> simp [zej,zc6] <;> omega
 ·right; right; right; right; right; right; right; constructor <;> simp [zej,zc6] <;> omega
theorem zsp (a:ByteArray) (ha:a.size≤9223372036854775807) (cs:List UInt8):∀ (i:Nat) (_:a.data.toList.drop i=cs) (l:List GV) (g:Nat) (H:GH) (K:GExit × St→Prop)
 (_:0<i) (_:zai l 0=.str a) (_:zai l 3=.int .i64 i)
 (_:∀ l',cs.all zej=false→zai l' 2=.bool false→K (.ret,⟨⟨l',g⟩,H⟩))
 (_:∀ l',cs.all zej=true→zai l' 0=.str a→K (.exit 0,⟨⟨l',g⟩,H⟩)),
 optW (erun T (.loop zj0) ⟨⟨l,g⟩,H⟩) K:=by
 induction cs with
 | nil =>
  intro i hd l g H K hi0 h0 h3 hr he
  have hlen:=zdn hd
  have hge:¬ ((i:Int)<a.size):=by
   have:a.size=a.data.toList.length:=by simp
   omega
  rw [zao]
  simp [zj0,h0,h3,hge]
  exact he _ (by simp) (by simp [h0])
 | cons c cs ih =>
  intro i hd l g H K hi0 h0 h3 hr he
  obtain ⟨hg,hi,hd'⟩:=zdo hd
  have hsz:a.size=a.data.toList.length:=by simp
  have hlt:(i:Int)<a.size:=by omega
  have hix:=zso hlt
  have hw:IntKind.i64.wrap ((i:Int)+1)=(i:Int)+1:=zar (by omega) (by omega)
  have hg':a.data[i]?=some c:=by simpa using hg
  have hne:¬ ((i:Int)=0):=by omega
  have hne':¬ (i=0):=by omega
  rw [zao,zav]
  rcases cls c with h | h | h | h | h | h | h | h
  all_goals
   obtain ⟨a0,a1,a2,a3,a4,a5,a6,al,an⟩:=h
   simp only [decide_eq_true_eq,decide_eq_false_iff_not] at a0 a1 a2 a3 a4 a5 a6
   simp [zj0,h0,h3,hlt,hix,zci,hg',a0,a1,a2,a3,a4,a5,a6,hw,hne,hne']
   first
    | exact hr _ (by simp [an]) (by simp)
    | (refine ih (i+1) hd' _ g H K (by omega) ?_ ?_ ?_ ?_
       ·simp [h0]
       ·simp
       ·intro l' h1 h2; exact hr l' (by simp [an,h1]) h2
       ·intro l' h1 h2; exact he l' (by simp [an,h1]) h2)
theorem zda (a:ByteArray) (ha:a.size≤9223372036854775807) (H:GH):ecall T zgj [.str a] H=some (.bool (zaz a.data.toList),H):=by
 apply optW.eq
 rw [zae zGG rfl (by simp [zqR]),zab]
 have hsz:a.size=a.data.toList.length:=by simp
 unfold zaz
 cases hl:a.data.toList with
 | nil =>
  have hs0:a.size=0:=by rw [hsz,hl]; rfl
  simp [zqR,zAJ,zao,zj0,hs0]
 | cons c cs =>
  have hs1:a.size=cs.length+1:=by rw [hsz,hl]; rfl
  have hlt:(0:Int)<a.size:=by omega
  have hlt':0<a.size:=by omega
  have hix:gIx a.size (.int .i64 0)=some 0:=zso (i:=0) (by omega)
  have hg0:a.data[0]?=some c:=by
   have:a.data.toList[0]?=some c:=by rw [hl]; rfl
   simpa using this
  have hg1:∀ h:0<a.data.size,a.data[0]'h=c:=fun h=>by rw [Array.getElem?_eq_getElem h] at hg0; exact Option.some.inj hg0
  have hw1:IntKind.i64.wrap 1=1:=by decide
  simp [zqR,zAJ]
  rw [zav,zap,zao,zav]
  rcases cls c with h | h | h | h | h | h | h | h
  all_goals
   obtain ⟨a0,a1,a2,a3,a4,a5,a6,al,an⟩:=h
   simp only [decide_eq_true_eq,decide_eq_false_iff_not] at a0 a1 a2 a3 a4 a5 a6
   simp [zj0,hlt,hlt',hix,zci,hg0,hg1,a0,a1,a2,a3,a4,a5,a6,hw1,al]
   try
    refine zsp a ha cs 1 (by simp [hl]) _ _ _ _ (by omega) ?_ ?_ ?_ ?_
    ·simp
    ·simp
    ·intro l' h1 h2
     simp [h2]
     intro _ _; simpa using h1
    ·intro l' h1 h2
     have h1':∀ x∈cs,zej x=true:=by simpa using h1
     by_cases h16:(a.size:Int)≤16
     ·have h16':cs.length≤15:=by omega
      have hge1:(1:Int)≤a.size:=by omega
      simp [h2,h16,hge1,h16',an]
      first | exact h1' | exact ⟨by omega,h1'⟩ | (intro x hx; exact h1' x hx)
     ·have h16':¬ cs.length≤15:=by omega
      have hge1:(1:Int)≤a.size:=by omega
      simp [h2,h16,hge1,h16']
def zzI (v:GV) (s g' off g:Nat) (H:GH):Option Eff :=
 match v with
 | .siter g'' t pos=>if g''=g'∧off=0 then
  if pos<t.size then
   some ⟨.tup [.bool true,.int .i64 pos,.int .i32 (Utf8.decode t pos).1],some (s,.siter g' t (pos+(Utf8.decode t pos).2)),H,g⟩
  else some ⟨.tup [.bool false],none,H,g⟩
  else none
 | _=>none
theorem ze9 {call:Nat→List GV→GH→Option (GV × GH)} (l:List GV) (g s g' o:Nat) (H:GH):zat call .next [.laddr s g' o] ⟨l,g⟩ H=zzI (zai l s) s g' o g H:=by
 simp only [zat,zzI]
 generalize zai l s=v
 cases v <;> try rfl
theorem zdp (s g' g:Nat) (t:ByteArray) (pos:Nat) (H:GH):zzI (.siter g' t pos) s g' 0 g H=if pos<t.size then
 some ⟨.tup [.bool true,.int .i64 pos,.int .i32 (Utf8.decode t pos).1],some (s,.siter g' t (pos+(Utf8.decode t pos).2)),H,g⟩
 else some ⟨.tup [.bool false],none,H,g⟩:=by simp [zzI]
def okc (c:UInt8):Bool:=decide (32≤c.toNat∧c.toNat≤126)
theorem zsq (a:ByteArray) (cs:List UInt8):∀ (i:Nat) (_:a.data.toList.drop i=cs) (l:List GV) (g g':Nat) (H:GH) (K:GExit × St→Prop)
 (_:zai l 0=.str a) (_:zai l 6=.siter g' a i)
 (_:∀ l',cs.all okc=false→zai l' 2=.bool false→K (.ret,⟨⟨l',g⟩,H⟩))
 (_:∀ l',cs.all okc=true→zai l' 0=.str a→K (.exit 0,⟨⟨l',g⟩,H⟩)),
 optW (erun T (.loop zfV) ⟨⟨l,g⟩,H⟩) K:=by
 induction cs with
 | nil =>
  intro i hd l g g' H K h0 h6 hr he
  have hlen:=zdn hd
  have hge:¬ (i<a.size):=by
   have:a.size=a.data.toList.length:=by simp
   omega
  rw [zao]
  simp [zfV,h0,h6,ze9,zdp,hge]
  exact he _ (by simp) (by simp [h0])
 | cons c cs ih =>
  intro i hd l g g' H K h0 h6 hr he
  obtain ⟨hg,hi,hd'⟩:=zdo hd
  have hsz:a.size=a.data.toList.length:=by simp
  have hlt:i<a.size:=by omega
  have hgi:a[i]'hlt=c:=by
   have h1:a[i]?=some c:=by rw [zci]; exact hg
   rw [getElem?_pos a i hlt] at h1
   exact Option.some.inj h1
  rw [zao,zav]
  by_cases h128:c.toNat<128
  ·have hdec:=decode_ascii a i hlt (by rw [hgi]; exact h128)
   rw [hgi] at hdec
   by_cases h1:(c.toNat:Int)<32
   ·have hk:okc c=false:=by simp [okc]; omega
    have h1':c.toNat<32:=by omega
    simp [zfV,h0,h6,ze9,zdp,hlt,hdec,h1,h1']
    exact hr _ (by simp [hk]) (by simp)
   ·have h1':¬ c.toNat<32:=by omega
    by_cases h2:(126:Int)<c.toNat
    ·have h2':126<c.toNat:=by omega
     have hk:okc c=false:=by simp [okc]; omega
     simp [zfV,h0,h6,ze9,zdp,hlt,hdec,h1,h1',h2,h2']
     exact hr _ (by simp [hk]) (by simp)
    ·have h2':¬ 126<c.toNat:=by omega
     have hk:okc c=true:=by simp [okc]; omega
     simp [zfV,h0,h6,ze9,zdp,hlt,hdec,h1,h1',h2,h2']
     refine ih (i+1) hd' _ g g' H K ?_ ?_ ?_ ?_
     ·simp [h0]
     ·simp
     ·intro l' h1 h2; exact hr l' (by simp [hk,h1]) h2
     ·intro l' h1 h2; exact he l' (by simp [hk,h1]) h2
  ·have hdec:=(decode_high a i hlt (by rw [hgi]; omega)).1
   have hk:okc c=false:=by simp [okc]; omega
   have h1:¬ ((Utf8.decode a i).1:Int)<32:=by omega
   have h2:(126:Int)<(Utf8.decode a i).1:=by omega
   have h1':¬ ((Utf8.decode a i).1)<32:=by omega
   have h2':126<(Utf8.decode a i).1:=by omega
   simp [zfV,h0,h6,ze9,zdp,hlt,h1,h2,h1',h2']
   exact hr _ (by simp [hk]) (by simp)
theorem zo6 (a:ByteArray) (H:GH):ecall T zpw [.str a] H=some (.bool (zky a.data.toList),H):=by
 apply optW.eq
 rw [zae zEf rfl (by simp [zmb]),zab]
 have hsz:a.size=a.data.toList.length:=by simp
 have hp:zky a.data.toList=(a.data.toList.all okc&&decide (a.data.toList.length≤64)):=rfl
 rw [hp]
 simp only [zmb,zz9]
 simp
 rw [zav,zap]
 refine zsq a a.data.toList 0 (by simp) _ _ 0 _ _ ?_ ?_ ?_ ?_
 ·simp
 ·simp
 ·intro l' h1 h2
  simp [h2]
  intro h; simp [h] at h1
 ·intro l' h1 h2
  by_cases h64:(a.size:Int)≤64
  ·simp [h2,h64]; exact ⟨by simpa using h1,by omega⟩
  ·simp [h2,h64]; intro _; omega
theorem zo7 (a:ByteArray) (ha:a.size≤9223372036854775807) (cs:List UInt8):∀ (i:Nat) (_:a.data.toList.drop i=cs) (l:List GV) (g:Nat) (H:GH) (K:GExit × St→Prop)
 (_:zai l 0=.str a) (_:zai l 3=.int .i64 i)
 (_:∀ l',cs.all okc=false→zai l' 2=.bool false→K (.ret,⟨⟨l',g⟩,H⟩))
 (_:∀ l',cs.all okc=true→zai l' 0=.str a→K (.exit 0,⟨⟨l',g⟩,H⟩)),
 optW (erun T (.loop zjZ) ⟨⟨l,g⟩,H⟩) K:=by
 induction cs with
 | nil =>
  intro i hd l g H K h0 h3 hr he
  have hlen:=zdn hd
  have hge:¬ ((i:Int)<a.size):=by
   have:a.size=a.data.toList.length:=by simp
   omega
  rw [zao]
  simp [zjZ,h0,h3,hge]
  exact he _ (by simp) (by simp [h0])
 | cons c cs ih =>
  intro i hd l g H K h0 h3 hr he
  obtain ⟨hg,hi,hd'⟩:=zdo hd
  have hsz:a.size=a.data.toList.length:=by simp
  have hlt:(i:Int)<a.size:=by omega
  have hix:=zso hlt
  have hw:IntKind.i64.wrap ((i:Int)+1)=(i:Int)+1:=zar (by omega) (by omega)
  have hg':a.data[i]?=some c:=by simpa using hg
  rw [zao,zav]
  by_cases h1:(c.toNat:Int)<32
  ·have hk:okc c=false:=by simp [okc]; omega
   have h1':c.toNat<32:=by omega
   simp [zjZ,h0,h3,hlt,hix,zci,hg',h1,h1']
   exact hr _ (by simp [hk]) (by simp)
  ·have h1':¬ c.toNat<32:=by omega
   by_cases h2:(126:Int)<c.toNat
   ·have h2':126<c.toNat:=by omega
    have hk:okc c=false:=by simp [okc]; omega
    simp [zjZ,h0,h3,hlt,hix,zci,hg',h1,h1',h2,h2']
    exact hr _ (by simp [hk]) (by simp)
   ·have h2':¬ 126<c.toNat:=by omega
    have hk:okc c=true:=by simp [okc]; omega
    simp [zjZ,h0,h3,hlt,hix,zci,hg',h1,h1',h2,h2',hw]
    refine ih (i+1) hd' _ g H K ?_ ?_ ?_ ?_
    ·simp [h0]
    ·simp
    ·intro l' h1 h2; exact hr l' (by simp [hk,h1]) h2
    ·intro l' h1 h2; exact he l' (by simp [hk,h1]) h2
theorem zwp (a:ByteArray) (ha:a.size≤9223372036854775807) (H:GH):ecall T zxB [.str a] H=some (.bool (zky a.data.toList),H):=by
 apply optW.eq
 rw [zae zGF rfl (by simp [ztB]),zab]
 have hsz:a.size=a.data.toList.length:=by simp
 have hp:zky a.data.toList=(a.data.toList.all okc&&decide (a.data.toList.length≤64)):=rfl
 rw [hp]
 simp only [ztB,zDe]
 simp
 rw [zav,zap]
 refine zo7 a ha a.data.toList 0 (by simp) _ _ _ _ ?_ ?_ ?_ ?_
 ·simp
 ·simp
 ·intro l' h1 h2
  simp [h2]
  intro h; simp [h] at h1
 ·intro l' h1 h2
  by_cases h64:(a.size:Int)≤64
  ·simp [h2,h64]; exact ⟨by simpa using h1,by omega⟩
  ·simp [h2,h64]; intro _; omega
theorem zHT (v:BitVec 64):(v &&& ~~~ 1#64=0#64)↔v=0#64∨v=1#64:=by
 constructor
 ·intro h
  have hb:∀ i,1≤i→v.getLsbD i=false:=by
   intro i hi
   by_cases h64:i<64
   ·have h2:(v &&& ~~~ 1#64).getLsbD i=(0#64).getLsbD i:=by rw [h]
    have h3:¬ i=0:=by omega
    rw [BitVec.getLsbD_and,BitVec.getLsbD_not,BitVec.getLsbD_one] at h2
    have e1:(decide (i<64)&&!(decide (0<64)&&decide (i=0)))=true:=by simp [h64,h3]
    rw [e1,Bool.and_true] at h2
    rw [h2]; simp
   ·exact BitVec.getLsbD_of_ge v i (by omega)
  cases h0:v.getLsbD 0
  ·left
   apply BitVec.eq_of_getLsbD_eq
   intro i hi
   rcases Nat.eq_zero_or_pos i with rfl | hp
   ·rw [h0]; rfl
   ·rw [hb i hp]; simp
  ·right
   apply BitVec.eq_of_getLsbD_eq
   intro i hi
   rcases Nat.eq_zero_or_pos i with rfl | hp
   ·rw [h0]; rfl
   ·rw [hb i hp]
    have h3:¬ i=0:=by omega
    simp [BitVec.getLsbD_one,h3]
 ·rintro (rfl | rfl) <;> decide
theorem zB0 (n:Int) (h1 : -9223372036854775808≤n) (h2:n≤9223372036854775807):∃ x,zlc .andNot .i64 n 1=some (.int .i64 x)∧(x=0↔(n=0∨n=1)):=by
 have e2:zlc .andNot .i64 n 1=some (.int .i64 (IntKind.i64.wrap ((BitVec.ofInt 64 n &&& ~~~ BitVec.ofInt 64 1).toNat:Int))):=rfl
 refine ⟨_,e2, ?_⟩
 have hlt:=(BitVec.ofInt 64 n &&& ~~~ BitVec.ofInt 64 1).isLt
 have e:(BitVec.ofInt 64 n &&& ~~~ BitVec.ofInt 64 1)=0#64↔(n=0∨n=1):=by
  have e1:BitVec.ofInt 64 1=1#64:=by decide
  rw [e1,zHT]
  have hn:∀ m:Nat,m<2→(BitVec.ofInt 64 n=BitVec.ofNat 64 m↔n=m):=by
   intro m hm
   constructor
   ·intro h
    have:=congrArg BitVec.toNat h
    rw [BitVec.toNat_ofInt,BitVec.toNat_ofNat] at this
    omega
   ·rintro rfl
    apply BitVec.eq_of_toNat_eq
    rw [BitVec.toNat_ofInt,BitVec.toNat_ofNat]
    omega
  have h3:=hn 0 (by omega)
  have h4:=hn 1 (by omega)
  rw [h3,h4]
  simp
 rw [← e]
 generalize (BitVec.ofInt 64 n &&& ~~~ BitVec.ofInt 64 1)=w at *
 rw [IntKind.wrap_i64]
 constructor
 ·intro h
  apply BitVec.eq_of_toNat_eq
  simp
  omega
 ·rintro rfl; decide
theorem zAw (a b c:ByteArray) (t:Tag) (ha:a.size≤1073741824) (hb:b.size≤1073741824) (hc:c.size≤1073741824) (H:GH):ecall T zdG [.sl 1 [.str a,.str b,.str c] t] H=some (.bool (zaz a.data.toList&&zaz b.data.toList&&zaz c.data.toList),H):=by
 apply optW.eq
 rw [zae zAg rfl (by simp [zfJ]),zab]
 have w1:IntKind.i64.wrap 1=1:=by decide
 have w2:IntKind.i64.wrap 2=2:=by decide
 have w3:IntKind.i64.wrap 3=3:=by decide
 have na:=zdf a (by omega) H
 have nb:=zdf b (by omega) H
 have nc:=zdf c (by omega) H
 cases xa:zaz a.data.toList <;> rw [xa] at na
 ·simp [zfJ,zj6,zao,zd2,gIx,w1,w2,w3,na]
 ·cases xb:zaz b.data.toList <;> rw [xb] at nb
  ·simp [zfJ,zj6,zao,zd2,gIx,w1,w2,w3,na,nb]
  ·cases xc:zaz c.data.toList <;> rw [xc] at nc
   ·simp [zfJ,zj6,zao,zd2,gIx,w1,w2,w3,na,nb,nc]
   ·simp [zfJ,zj6,zao,zd2,gIx,w1,w2,w3,na,nb,nc]
theorem zng (s:ByteArray) (hs:s.size≤1073741824) (H:GH):∃ parts:List ByteArray,parts.map (·.data.toList)=zbV 62 s.data.toList∧ecall T zta [.str s,.str ⟨#[62]⟩] H=some (.sl 1 (parts.map .str) .exact,H):=by
 refine ⟨Lib.splitB ⟨#[62]⟩ 0 (Lib.countB s ⟨#[62]⟩) s, ?_, ?_⟩
 ·rw [Lib.splitB_data]
  exact znk 62 s.data.toList
 ·rw [zgX zEl (by decide) (by simp [zpC])]
  have:s.size<4294967281∧1≤(⟨#[62]⟩:ByteArray).size:=⟨by omega,by decide⟩
  simp only [zny,zw5,zuU,zpC,if_pos this]
  rfl
theorem zgc (c:UInt8):∀ (l:List UInt8) (p:List UInt8),p∈zbV c l→p.length≤l.length
 | [],p,h=>by simp [zbV] at h; subst h; simp
 | b::l,p,h=>by
  have ih:=zgc c l
  unfold zbV at h
  split at h
  ·rcases List.mem_cons.1 h with rfl | h
   ·simp
   ·have:=ih p h; simp; omega
  ·split at h
   ·simp at h; subst h; simp
   ·rename_i q qs hq
    rcases List.mem_cons.1 h with rfl | h
    ·have:=ih q (by rw [hq]; simp); simp; omega
    ·have:=ih p (by rw [hq]; simp [h]); simp; omega
theorem zsr (k n:Int) (s:ByteArray) (hs:s.size≤1073741824) (H:GH):∃ x y z,ecall T zgl [.agg [.int .i64 k,.int .i64 n,.str s]] H=some (.tup [.agg [.str x,.str y,.str z],.bool (decide (k=5)&&(decide (n=0)&&(zbE s.data.toList).isSome))],H):=by
 obtain ⟨parts,hp,hsp⟩:=zng s hs H
 have key:∃ x y z,optW (ecall T zgl [.agg [.int .i64 k,.int .i64 n,.str s]] H) fun r=>r=(.tup [.agg [.str x,.str y,.str z],.bool (decide (k=5)&&(decide (n=0)&&(zbE s.data.toList).isSome))],H):=by
  rw [zae zAf rfl (by simp [zdi])]
  by_cases hk:k=5
  ·by_cases hn:n=0
   ·have hsize:∀ p∈parts,p.size≤1073741824:=by
     intro p hpm
     have h1:p.data.toList∈zbV 62 s.data.toList:=by rw [← hp]; exact List.mem_map_of_mem hpm
     have h2:=zgc 62 _ _ h1
     have e1:p.size=p.data.toList.length:=by simp
     have e2:s.size=s.data.toList.length:=by simp
     omega
    by_cases h3:parts.length=3
    ·obtain ⟨a,b,c,rfl⟩:∃ a b c,parts=[a,b,c]:=by
      match parts,h3 with
      | [a,b,c],_=>exact ⟨a,b,c,rfl⟩
     have hna:=zAw a b c .exact (hsize a (by simp)) (hsize b (by simp)) (hsize c (by simp)) H
     simp only [List.map_cons,List.map_nil] at hp hsp
     have hlk:(zbE s.data.toList).isSome=(zaz a.data.toList&&zaz b.data.toList&&zaz c.data.toList):=by
      unfold zbE
      rw [← hp]
      simp only
      split <;> simp_all
     rw [hlk]
     cases hx:(zaz a.data.toList&&zaz b.data.toList&&zaz c.data.toList) <;> rw [hx] at hna
     ·refine ⟨⟨#[]⟩,⟨#[]⟩,⟨#[]⟩, ?_⟩
      rw [zab]
      simp [zdi,zeO,hk,hn,hsp,hna,zaf,zaa]
     ·refine ⟨a,c,b, ?_⟩
      rw [zab]
      simp [zdi,zeO,hk,hn,hsp,hna,zaf,zaa,gIx]
    ·have hlk:(zbE s.data.toList).isSome=false:=by
      unfold zbE
      rw [← hp]
      split
      ·rename_i a b c h
       have:=congrArg List.length h
       simp at this
       exact absurd this h3
      ·rfl
     have h3':¬ ((parts.length:Int)=3):=by omega
     refine ⟨⟨#[]⟩,⟨#[]⟩,⟨#[]⟩, ?_⟩
     rw [zab,hlk]
     simp [zdi,zeO,hk,hn,hsp,zaf,zaa,h3',h3]
   ·refine ⟨⟨#[]⟩,⟨#[]⟩,⟨#[]⟩, ?_⟩
    rw [zab]
    simp [zdi,zeO,hk,hn,hsp,zaf,zaa]
  ·refine ⟨⟨#[]⟩,⟨#[]⟩,⟨#[]⟩, ?_⟩
   rw [zab]
   simp [zdi,zeO,hk,hsp,zaf,zaa]
 obtain ⟨x,y,z,h⟩:=key
 exact ⟨x,y,z,optW.eq h⟩
theorem znh (s:ByteArray):s.data.toList=[]↔s=⟨#[]⟩:=by
 constructor
 ·intro h
  rcases s with ⟨d⟩
  have:d = #[]:=Array.toList_inj.1 h
  rw [this]
 ·rintro rfl; rfl
theorem zjj (k n:Int) (s:ByteArray) (hs:(1≤k∧k≤3)∨s.size≤1073741824) (hn1 : -9223372036854775808≤n) (hn2:n≤9223372036854775807) (H:GH) :
 ecall T zii [.agg [.int .i64 k,.int .i64 n,.str s]] H=some (.bool (zbN k n s.data.toList),H):=by
 apply optW.eq
 rw [zae zD6 rfl (by simp [zdH]),zab]
 unfold zbN
 simp only [znh]
 by_cases h0:k=0
 ·subst h0
  by_cases hn:n=0 <;> simp [zdH,zfI,hn]
 ·by_cases h1:k=1
  ·subst h1
   obtain ⟨x,hx,hx0⟩:=zB0 n hn1 hn2
   by_cases hx1:x=0
   ·have:=hx0.1 hx1
    simp [zdH,zfI,hx,hx1,this]
   ·have:¬ (n=0∨n=1):=fun h=>hx1 (hx0.2 h)
    simp [zdH,zfI,hx,hx1,this]
  ·by_cases h2:k=2
   ·subst h2
    by_cases ha : -1099511627776≤n
    ·by_cases hb:n≤1099511627776 <;> simp [zdH,zfI,ha,hb]
    ·simp [zdH,zfI,ha]
   ·by_cases h3:k=3
    ·subst h3
     by_cases hn:n=0 <;> simp [zdH,zfI,hn,zo6]
    ·by_cases h4:k=4
     ·subst h4
      have:=zdf s (by omega) H
      by_cases hn:n=0 <;> simp [zdH,zfI,hn,this]
     ·obtain ⟨x,y,z,hl⟩:=zsr k n s (by omega) H
      by_cases h5:k=5
      ·subst h5
       simp [zdH,zfI,hl,zaa]
      ·simp [zdH,zfI,h0,h1,h2,h3,h4,h5,hl,zaa]
theorem zo8 (s:ByteArray) (hs:s.size≤1073741824) (cs:List UInt8):∀ (i:Nat) (_:s.data.toList.drop i=cs) (l:List GV) (g:Nat) (H:GH) (K:GExit × St→Prop) (id:Nat) (done:List ByteArray) (cur:ByteArray)
 (_:zai l 0=.str s) (_:zai l 1=.int .u8 62) (_:zai l 5=.hsl id 0 (done.length+1) 1 false) (_:zai l 6=.int .i64 i)
 (_:H.objs[id]?=some (.row 9 ((done++[cur]).map .str))) (_:H.bo≤id) (_:H.bo≤H.objs.length) (_:cur.size+cs.length≤s.size) (_:done.length+cs.length≤s.size)
 (_:∀ (l':List GV) (H':GH) (id':Nat) (parts:List ByteArray) (p:List UInt8) (ps:List (List UInt8)),zbV 62 cs=p::ps→parts.map (fun b:ByteArray=>b.data.toList)=done.map (fun b:ByteArray=>b.data.toList)++(cur.data.toList++p)::ps →
   zai l' 5=.hsl id' 0 parts.length 1 false→H'.objs[id']?=some (.row 9 (parts.map .str))→K (.exit 0,⟨⟨l',g⟩,H'⟩)),
 optW (erun T (.loop zl5) ⟨⟨l,g⟩,H⟩) K:=by
 induction cs with
 | nil =>
  intro i hd l g H K id done cur h0 h1 h5 h6 hob hbo hbl hc1 hc2 he
  have hlen:=zdn hd
  have hge:¬ ((i:Int)<s.size):=by
   have:s.size=s.data.toList.length:=by simp
   omega
  rw [zao]
  simp [zl5,h0,h6,hge]
  exact he _ _ id (done++[cur]) [] [] rfl (by simp) (by simp [h5]) hob
 | cons c cs ih =>
  intro i hd l g H K id done cur h0 h1 h5 h6 hob hbo hbl hc1 hc2 he
  obtain ⟨hg,hi,hd'⟩:=zdo hd
  have hsz:s.size=s.data.toList.length:=by simp
  have hlt:(i:Int)<s.size:=by omega
  have hix:=zso hlt
  have hw:IntKind.i64.wrap ((i:Int)+1)=(i:Int)+1:=zar (by omega) (by omega)
  have hg':s.data[i]?=some c:=by simpa using hg
  rw [zao,zav]
  simp only [List.length_cons] at hc1 hc2
  obtain ⟨p,ps,hsp⟩:∃ p ps,zbV 62 cs=p::ps:=by
   cases cs with
   | nil=>exact ⟨_,_,rfl⟩
   | cons b l =>
    unfold zbV
    split
    ·exact ⟨_,_,rfl⟩
    ·split <;> exact ⟨_,_,rfl⟩
  by_cases hc:c=62
  ·subst hc
   have happ:=zeg (bytes:=16) (ag:=false) (len:=done.length+1) (sz:=1) (x:=.sl 1 [.str ⟨#[]⟩] .exact) (news:=[.str ⟨#[]⟩]) hob (by simp [zbS]) (by simp) hbo (by simp [zeu]; omega) (by simp [maxLen]; omega) (by simp)
   simp [zl5,h0,h1,h5,h6,hlt,hix,zci,hg',hw,zan,happ]
   refine ih (i+1) hd' _ g _ K H.objs.length (done++[cur]) ⟨#[]⟩ ?_ ?_ ?_ ?_ ?_ ?_ ?_ ?_ ?_ ?_
   ·simp [h0]
   ·simp [h1]
   ·simp
   ·simp
   ·simp
   ·exact hbl
   ·first | omega | (simp; omega) | simp
   ·have:(⟨#[]⟩:ByteArray).size=0:=rfl
    first | omega | (simp; omega) | simp
   ·first | omega | (simp; omega) | simp
   ·intro l' H' id' parts p' ps' e1 e2 e3 e4
    refine he l' H' id' parts [] (p'::ps') (by simp [zbV,e1]) ?_ e3 e4
    rw [e2]; simp
  ·have hcn:¬ ((c.toNat:Int)=62):=fun h=>hc (u8_ne.1 (by simpa using h))
   have hcn':¬ (c.toNat=62):=by omega
   have hwd:IntKind.i64.wrap (done.length:Int)=done.length:=zar (by omega) (by omega)
   have hgd:gIx (done.length+1) (.int .i64 (done.length:Int))=some done.length:=by simp only [gIx]; rw [if_pos (by omega)]; simp
   have hob':H.objs[id]?=some (.row 9 (done.map GV.str++[.str cur])):=by simpa using hob
   have hpt:(done.map GV.str++[.str cur])[done.length]?=some (.str cur):=by simp
   have hsp2:∀ x,zaa (done.map GV.str++[.str cur]) done.length [x]=some (done.map GV.str++[x]):=by
    intro x
    simp [zaa]
   have hgb:zaK s.size true true false [.int .i64 (i:Int),.int .i64 ((i:Int)+1)]=some (i,i+1,none):=by
    have e1:zb8 s.size (.int .i64 ((i:Int)+1))=some (i+1):=by simp only [zb8]; rw [if_pos (by omega)]; congr 1
    have e2:zb8 (i+1) (.int .i64 (i:Int))=some i:=by simp only [zb8]; rw [if_pos (by omega)]; simp
    simp [zaK,e1,e2]
   have hxs:(s.extract i (i+1)).data.toList=[c]:=by
    rw [Lib.extract_data,show i+1 - i=1 by omega,hd]; rfl
   have hxz:(s.extract i (i+1)).size=1:=by
    have hbz:∀ b:ByteArray,b.size=b.data.toList.length:=fun b=>by simp
    rw [hbz,hxs]; rfl
   have hadd:znx .add cur (s.extract i (i+1))=some (.str (cur++s.extract i (i+1))):=by
    simp only [znx]; rw [if_pos (by rw [hxz]; simp [maxLen]; omega)]
   have hidl:id<H.objs.length:=(List.getElem?_eq_some_iff.1 hob).1
   simp [zl5,h0,h1,h5,h6,hlt,hix,zci,hg',hw,hcn,hcn',hob',hwd,hgd,hpt,hsp2,hgb,hadd,hbo]
   refine ih (i+1) hd' _ g _ K id done (cur++s.extract i (i+1)) ?_ ?_ ?_ ?_ ?_ ?_ ?_ ?_ ?_ ?_
   ·simp [h0]
   ·simp [h1]
   ·simp [h5]
   ·simp
   ·simp [hidl]
   ·exact hbo
   ·simp; omega
   ·simp [hxz]; omega
   ·omega
   ·intro l' H' id' parts p' ps' e1 e2 e3 e4
    refine he l' H' id' parts (c::p') ps' (by simp [zbV,e1,hc]) ?_ e3 e4
    rw [e2]; simp [hxs]; rw [hd]; rfl
theorem zwq (c:UInt8) (l:List UInt8):∃ p ps,zbV c l=p::ps:=by
 cases l with
 | nil=>exact ⟨_,_,rfl⟩
 | cons b l =>
  unfold zbV
  split
  ·exact ⟨_,_,rfl⟩
  ·split <;> exact ⟨_,_,rfl⟩
theorem zni (s:ByteArray) (hs:s.size≤1073741824) (H:GH) (hb:H.bo≤H.objs.length):∃ (id:Nat) (parts:List ByteArray) (H':GH),parts.map (fun b:ByteArray=>b.data.toList)=zbV 62 s.data.toList∧H'.objs[id]?=some (.row 9 (parts.map .str)) ∧
 ecall T zs7 [.str s,.int .u8 62] H=some (.hsl id 0 parts.length 1 false,H'):=by
 have key:optW (ecall T zs7 [.str s,.int .u8 62] H) fun r=>∃ (id:Nat) (parts:List ByteArray) (H':GH),parts.map (fun b:ByteArray=>b.data.toList)=zbV 62 s.data.toList∧H'.objs[id]?=some (.row 9 (parts.map .str))∧r=(.hsl id 0 parts.length 1 false,H'):=by
  rw [zae zG7 rfl (by simp [ztY]),zab]
  simp only [ztY,zDB]
  simp [zan]
  rw [zav,zap]
  refine zo8 s hs s.data.toList 0 (by simp) _ _ _ _ H.objs.length [] ⟨#[]⟩ ?_ ?_ ?_ ?_ ?_ ?_ ?_ ?_ ?_ ?_
  ·simp
  ·simp
  ·simp
  ·simp
  ·simp [GH.newObj]
  ·exact hb
  ·simp [GH.newObj]; omega
  ·have:(⟨#[]⟩:ByteArray).size=0:=rfl
   simp [this]
  ·simp
  ·intro l' H' id' parts p ps e1 e2 e3 e4
   simp [e3]
   refine ⟨id',parts, ?_,e4,rfl,rfl⟩
   rw [e1]; simpa using e2
 obtain ⟨v,h,id,parts,H',h1,h2,h3⟩:=key
 exact ⟨id,parts,H',h1,h2,by rw [h,h3]⟩
theorem zfp (c:UInt8):∀ l:List UInt8,((zbV c l).map List.length).sum+(zbV c l).length=l.length+1
 | []=>rfl
 | b::l=>by
  have ih:=zfp c l
  obtain ⟨p,ps,h⟩:=zwq c l
  unfold zbV
  rw [h] at ih ⊢
  simp only [List.map_cons,List.sum_cons,List.length_cons] at ih
  split
  ·simp; omega
  ·simp; omega
theorem zfq (l:List UInt8) (h:60<l.length):(zbE l).isSome=false:=by
 unfold zbE
 have hs:=zfp 62 l
 split
 ·rename_i a b c hl
  rw [hl] at hs
  simp only [List.map_cons,List.map_nil,List.sum_cons,List.sum_nil,List.length_cons,List.length_nil] at hs
  split
  ·rename_i hn
   exfalso
   simp only [zaz,Bool.and_eq_true,decide_eq_true_eq] at hn
   omega
  ·rfl
 ·rfl
theorem zce (a b:Nat) (x y z:ByteArray) (c:Bool):zaJ a b 100 (.tup [.agg [.str x,.str y,.str z],.bool c])=some (.tup [.agg [.str x,.str y,.str z],.bool c]):=rfl
theorem zzJ (s:ByteArray) (H:GH):∃ x y z,ecall T zlV [.str s] H=some (.tup [.agg [.str x,.str y,.str z],.bool (zbE s.data.toList).isSome],H):=by
 have hsz:s.size=s.data.toList.length:=by simp
 have key:∃ x y z,optW (ecall T zlV [.str s] H) fun r=>r=(.tup [.agg [.str x,.str y,.str z],.bool (zbE s.data.toList).isSome],H):=by
  rw [zbc zD0 rfl (by simp [zeG])]
  by_cases h60:(60:Int)<s.size
  ·refine ⟨⟨#[]⟩,⟨#[]⟩,⟨#[]⟩, ?_⟩
   have h60':60<s.size:=by omega
   rw [zab,zfq _ (by omega)]
   simp [zeG,zhe,h60,h60',zaf,zaa,zce]
  ·have h60':¬ 60<s.size:=by omega
   obtain ⟨id,parts,H',hp,hob,hsp⟩:=zni s (by omega) H.over (by simp [GH.over])
   by_cases h3:parts.length=3
   ·obtain ⟨a,b,c,rfl⟩:∃ a b c,parts=[a,b,c]:=by
     match parts,h3 with
     | [a,b,c],_=>exact ⟨a,b,c,rfl⟩
    simp only [List.map_cons,List.map_nil,List.length_cons,List.length_nil] at hp hsp hob
    have hsum:=zfp 62 s.data.toList
    rw [← hp] at hsum
    simp only [List.map_cons,List.map_nil,List.sum_cons,List.sum_nil,List.length_cons,List.length_nil] at hsum
    have hlen:∀ b:ByteArray,b.size=b.data.toList.length:=fun b=>by simp
    have ha:=hlen a; have hb:=hlen b; have hc:=hlen c
    have hlk:(zbE s.data.toList).isSome=(zaz a.data.toList&&zaz b.data.toList&&zaz c.data.toList):=by
     unfold zbE
     rw [← hp]
     simp only
     cases hh:(zaz a.data.toList&&zaz b.data.toList&&zaz c.data.toList) <;> simp only [if_true,if_false,Bool.false_eq_true] <;> rfl
    have na:=zda a (by omega) H'
    have nb:=zda b (by omega) H'
    have nc:=zda c (by omega) H'
    rw [hlk]
    have e1:(0+1+1+1:Nat)=3:=rfl
    rw [e1] at hsp
    cases xa:zaz a.data.toList <;> rw [xa] at na
    ·refine ⟨⟨#[]⟩,⟨#[]⟩,⟨#[]⟩, ?_⟩
     rw [zab]
     simp [zeG,zhe,h60,h60',hsp,hob,gIx,na,zaf,zaa,zce]
    ·cases xb:zaz b.data.toList <;> rw [xb] at nb
     ·refine ⟨⟨#[]⟩,⟨#[]⟩,⟨#[]⟩, ?_⟩
      rw [zab]
      simp [zeG,zhe,h60,h60',hsp,hob,gIx,na,nb,zaf,zaa,zce]
     ·cases xc:zaz c.data.toList <;> rw [xc] at nc
      ·refine ⟨⟨#[]⟩,⟨#[]⟩,⟨#[]⟩, ?_⟩
       rw [zab]
       simp [zeG,zhe,h60,h60',hsp,hob,gIx,na,nb,nc,zaf,zaa,zce]
      ·refine ⟨a,c,b, ?_⟩
       rw [zab]
       simp [zeG,zhe,h60,h60',hsp,hob,gIx,na,nb,nc,zaf,zaa,zce]
   ·have hlk:(zbE s.data.toList).isSome=false:=by
     unfold zbE
     rw [← hp]
     split
     ·rename_i a b c h
      have:=congrArg List.length h
      simp at this
      exact absurd this h3
     ·rfl
    have h3':¬ ((parts.length:Int)=3):=by omega
    refine ⟨⟨#[]⟩,⟨#[]⟩,⟨#[]⟩, ?_⟩
    rw [zab,hlk]
    simp [zeG,zhe,h60,h60',hsp,zaf,zaa,h3',h3,zce]
 obtain ⟨x,y,z,h⟩:=key
 exact ⟨x,y,z,optW.eq h⟩
theorem znj (k n:Int) (s:ByteArray) (hs:s.size≤9223372036854775807) (H:GH) :
 ecall T zlU [.agg [.int .i64 k,.int .i64 n,.str s]] H=some (.bool (zbN k n s.data.toList),H):=by
 apply optW.eq
 rw [zae zGs rfl (by simp [zhd]),zab]
 unfold zbN
 simp only [znh]
 by_cases h0:k=0
 ·subst h0
  by_cases hn:n=0 <;> simp [zhd,zjt,hn]
 ·by_cases h1:k=1
  ·subst h1
   by_cases hn:n=0
   ·simp [zhd,zjt,hn]
   ·by_cases hn1:n=1 <;> simp [zhd,zjt,hn,hn1]
  ·by_cases h2:k=2
   ·subst h2
    by_cases ha : -1099511627776≤n
    ·by_cases hb:n≤1099511627776 <;> simp [zhd,zjt,ha,hb]
    ·simp [zhd,zjt,ha]
   ·by_cases h3:k=3
    ·subst h3
     by_cases hn:n=0 <;> simp [zhd,zjt,hn,zwp s hs]
    ·by_cases h4:k=4
     ·subst h4
      by_cases hn:n=0 <;> simp [zhd,zjt,hn,zda s hs]
     ·by_cases h5:k=5
      ·subst h5
       obtain ⟨x,y,z,hl⟩:=zzJ s H
       by_cases hn:n=0 <;> simp [zhd,zjt,hn,hl,zaa]
      ·simp [zhd,zjt,h0,h1,h2,h3,h4,h5]
end Go.Proofs.YtchjbidfmhmmhaaGreatDoor
