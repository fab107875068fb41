/- Own work: the zaG machine and what it shows, part Sr. -/
import Derived.Test.YtchjbidfmhmmhaaGreatDoorVa
set_option linter.all false
namespace Go.Proofs.YtchjbidfmhmmhaaGreatDoor
open Go.Sh
set_option maxHeartbeats 4000000
set_option maxRecDepth 100000
def u8s (bs:List UInt8):List GV:=bs.map fun b=>.int .u8 b.toNat
def RowOk (toks:List Nat) (bt:Nat) (sl:GV) (bs:List UInt8):Prop :=
 (bs=[]∧sl=.nilsl)∨∃ t pos,bs≠[]∧sl=.sl 1 (u8s bs) (.tok t pos (some 5))∧toks[t]?=some pos∧bt≤t
structure Bld (H:GH) (id:Nat) (bs:List UInt8):Prop where
 bo:H.bo≤id
 bt:H.bt≤H.toks.length
 obj:∃ p sl,H.objs[id]?=some (.cells 176 [p,sl])∧(p=.nilptr∨p=.ptr id 0)∧RowOk H.toks H.bt sl bs
theorem ztS {H:GH} {id:Nat} {p sl:GV} (hb:H.bo≤id) (ho:H.objs[id]?=some (.cells 176 [p,sl])) (hp:p=.nilptr∨p=.ptr id 0) :
 ∃ objs,ecall T zxx [.ptr id 0] H=some (.tup [],{ H with objs:=objs })∧objs[id]?=some (.cells 176 [.ptr id 0,sl]):=by
 rw [zc4 zDb (by decide) (by simp [zrL])]
 rcases hp with rfl | rfl
 ·refine ⟨H.objs.set id (.cells 176 [.ptr id 0,sl]), ?_,obj_set ho⟩
  simp [ziz,zw8,zsy,zrL,ho,hb]
 ·refine ⟨H.objs, ?_,ho⟩
  simp [ziz,zw8,zsy,zrL,ho]
theorem zyP {H:GH} {sl:GV} {bs:List UInt8} (hr:RowOk H.toks H.bt sl bs) (hbt:H.bt≤H.toks.length) (hl:bs.length≤100000) (c:UInt8) :
 ∃ s' toks',zaU H 5 1 1 sl (.sl 1 [.int .u8 c.toNat] .exact)=some (s',{ H with toks:=toks' })∧RowOk toks' H.bt s' (bs++[c])∧H.bt≤toks'.length∧s'.ok=true∧s'.one=true∧s'.cells=[s']∧(∀ t,zbx t sl=sl)∧(∀ t,zbx t s'=s'):=by
 have h1:(1:Nat)≤room∧(1:Nat)≤maxLen:=⟨by simp [room],by simp [maxLen]⟩
 have h2:bs.length+1≤room∧bs.length+1≤maxLen:=⟨by simp [room]; omega,by simp [maxLen]; omega⟩
 rcases hr with ⟨rfl,rfl⟩ | ⟨t,pos,hne,rfl,ht,hb⟩
 ·refine ⟨.sl 1 [.int .u8 c.toNat] (.tok H.toks.length 1 (some 5)),H.toks++[1], ?_,.inr ⟨H.toks.length,1,by simp,rfl,by simp,hbt⟩,by simp; omega,rfl,rfl,rfl,fun _=>rfl,fun _=>rfl⟩
  simp [zaU,zbK,h1]
 ·have hlt:t<H.toks.length:=(List.getElem?_eq_some_iff.1 ht).1
  refine ⟨.sl 1 (u8s bs++[.int .u8 c.toNat]) (.tok t (pos+1) (some 5)),H.toks.set t (pos+1), ?_,.inr ⟨t,pos+1,by simp,by simp [u8s],by simp [hlt],hb⟩,by simpa using hbt,rfl,rfl,rfl,fun _=>rfl,fun _=>rfl⟩
  simp [zaU,zbK,ht,hb,u8s,h2]
theorem zdp {H:GH} {id:Nat} {bs:List UInt8} (hB:Bld H id bs) (hl:bs.length≤100000) (c:UInt8) :
 ∃ H',ecall T zmh [.ptr id 0,.int .u8 c.toNat] H=some (.niliface,H')∧Bld H' id (bs++[c]):=by
 obtain ⟨hbo,hbt,p,sl,ho,hp,hrow⟩:=hB
 obtain ⟨objs,hcc,ho'⟩:=ztS hbo ho hp
 have hbt':({ H with objs:=objs } : GH).bt≤({ H with objs:=objs } : GH).toks.length:=hbt
 obtain ⟨s',toks',happ,hrow',hbt2,hok,hone,hcells,hu1,hu2⟩:=zyP (H:={ H with objs:=objs }) hrow hbt' hl c
 refine ⟨{ H with objs:=objs.set id (.cells 176 [.ptr id 0,s']),toks:=toks' }, ?_,hbo,hbt2,.ptr id 0,s',obj_set (H:={ H with objs:=objs }) ho',.inr rfl,hrow'⟩
 apply optW.eq
 rw [zad zDi rfl (by simp [zrP]),zab]
 simp only [zrP,zAh]
 simp [hcc,ho',zaj,happ,hok,hone,hcells,hbo,hu1,hu2,zae]
theorem zDK {H:GH} {id:Nat} {bs:List UInt8} (hB:Bld H id bs):ecall T zxv [.ptr id 0] H=some (.str ⟨bs.toArray⟩,H):=by
 obtain ⟨hbo,hbt,p,sl,ho,hp,hrow⟩:=hB
 rw [zc4 zC5 (by decide) (by simp [zrI])]
 rcases hrow with ⟨rfl,rfl⟩ | ⟨t,pos,hne,rfl,ht,hb⟩
 ·simp [ziz,zmI,znX,zrI,ho]
 ·have hr:∀ l:List UInt8,ze9 (u8s l)=some l:=by
   intro l
   induction l with
   | nil=>rfl
   | cons b l ih =>
    have:=b.toNat_lt
    have e:u8s (b::l)=.int .u8 b.toNat::u8s l:=rfl
    rw [e,ze9,if_pos (by omega),ih]
    simp
  cases bs with
  | nil=>exact absurd rfl hne
  | cons b l =>
   have:=hr (b::l)
   have e:u8s (b::l)=.int .u8 b.toNat::u8s l:=rfl
   rw [e] at this
   simp [ziz,zmI,znX,zrI,ho,e,ht,hb,this]
theorem ztT (l:List UInt8):(zny l).length≤2 * l.length:=by
 induction l with
 | nil=>simp [zny]
 | cons c l ih=>unfold zny; split <;> simp <;> omega
theorem zns (s:ByteArray) (hs:s.size≤1000) (cs:List UInt8):∀ (i:Nat) (_:s.data.toList.drop i=cs) (l:List GV) (g:Nat) (H:GH) (K:GExit × St→Prop) (id:Nat) (bs:List UInt8)
 (_:zag l 8=.sl 1 (zbf s) .imm) (_:zag l 9=.int .i64 s.size) (_:zag l 10=.int .i64 i) (_:zag l 3=.ptr id 0)
 (_:Bld H id bs) (_:bs.length+2 * cs.length≤10000)
 (_:∀ (l':List GV) (H':GH),zag l' 3=.ptr id 0→Bld H' id (bs++zny cs)→K (.exit 0,⟨⟨l',g⟩,H'⟩)),
 optW (erun T (.loop zi6) ⟨⟨l,g⟩,H⟩) K:=by
 induction cs with
 | nil =>
  intro i hd l g H K id bs h8 h9 h10 h3 hB hl he
  have hlen:=zdr hd
  have hge:¬ ((i:Int)<s.size):=by
   have:s.size=s.data.toList.length:=by simp
   omega
  rw [zal]
  simp [zi6,h9,h10,hge]
  exact he _ H (by simp [h3]) (by simpa [zny] using hB)
 | cons c cs ih =>
  intro i hd l g H K id bs h8 h9 h10 h3 hB hl he
  obtain ⟨hg,hi,hd'⟩:=zds hd
  have hsz:s.size=s.data.toList.length:=by simp
  have hlt:(i:Int)<s.size:=by omega
  have hbl:(zbf s).length=s.size:=zcp s
  have hix:gIx (zbf s).length (.int .i64 i)=some i:=by rw [hbl]; exact znu hlt
  have hw:IntKind.i64.wrap ((i:Int)+1)=(i:Int)+1:=zam (by omega) (by omega)
  have hge:(zbf s)[i]?=some (.int .u8 c.toNat):=by simp only [zbf,List.getElem?_map,hg]; rfl
  rw [zal,zay]
  simp only [List.length_cons] at hl
  by_cases h39:c=39∨c=92
  ·obtain ⟨H1,hw1,hB1⟩:=zdp hB (by omega) 92
   obtain ⟨H2,hw2,hB2⟩:=zdp hB1 (by simp; omega) c
   have e92:((92:UInt8).toNat:Int)=92:=rfl
   rw [e92] at hw1
   have hq:bs++zny (c::cs)=(bs++[92]++[c])++zny cs:=by simp [zny,h39]
   rcases h39 with rfl | rfl
   ·have e39:((39:UInt8).toNat:Int)=39:=rfl
    rw [e39] at hw2 hge
    simp [zi6,h8,h9,h10,h3,hlt,hix,hge,hw1,hw2,hw]
    refine ih (i+1) hd' _ g H2 K id _ ?_ ?_ ?_ ?_ hB2 (by simp; omega) ?_
    ·simp [h8]
    ·simp [h9]
    ·simp
    ·simp [h3]
    ·intro l' H' h1 h2; exact he l' H' h1 (by rw [hq]; exact h2)
   ·rw [e92] at hw2 hge
    simp [zi6,h8,h9,h10,h3,hlt,hix,hge,hw1,hw2,hw]
    refine ih (i+1) hd' _ g H2 K id _ ?_ ?_ ?_ ?_ hB2 (by simp; omega) ?_
    ·simp [h8]
    ·simp [h9]
    ·simp
    ·simp [h3]
    ·intro l' H' h1 h2; exact he l' H' h1 (by rw [hq]; exact h2)
  ·have hn1:¬ c=39:=fun h=>h39 (.inl h)
   have hn2:¬ c=92:=fun h=>h39 (.inr h)
   have a1:¬ c.toNat=39:=fun h=>hn1 (UInt8.toNat_inj.1 h)
   have a2:¬ c.toNat=92:=fun h=>hn2 (UInt8.toNat_inj.1 h)
   have b1:¬ (c.toNat:Int)=39:=by omega
   have b2:¬ (c.toNat:Int)=92:=by omega
   obtain ⟨H1,hw1,hB1⟩:=zdp hB (by omega) c
   have hq:bs++zny (c::cs)=(bs++[c])++zny cs:=by simp [zny,hn1,hn2]
   simp [zi6,h8,h9,h10,h3,hlt,hix,hge,hw1,hw,a1,a2,b1,b2]
   refine ih (i+1) hd' _ g H1 K id _ ?_ ?_ ?_ ?_ hB1 (by simp; omega) ?_
   ·simp [h8]
   ·simp [h9]
   ·simp
   ·simp [h3]
   ·intro l' H' h1 h2; exact he l' H' h1 (by rw [hq]; exact h2)
theorem zyQ (H:GH):Bld (H.over.newObj (.cells 176 [.nilptr,.nilsl])) H.objs.length []:=by
 refine ⟨Nat.le_refl _,Nat.le_refl _,.nilptr,.nilsl, ?_,.inl rfl,.inl ⟨rfl,rfl⟩⟩
 simp [GH.newObj,GH.over]
theorem zyR (a b:Nat) (x:ByteArray):zaI a b 100 (.str x)=some (.str x):=rfl
theorem zlW (s:ByteArray) (hs:s.size≤1000) (H:GH):ecall T zva [.str s] H=some (.str ⟨(39::(zny s.data.toList++[39])).toArray⟩,H):=by
 apply optW.eq
 rw [zci zDe rfl (by simp [zrN]),zab]
 have hsz:s.size=s.data.toList.length:=by simp
 have hml:s.size≤maxLen:=by simp [maxLen]; omega
 obtain ⟨H1,hw1,hB1⟩:=zdp (zyQ H) (by simp) 39
 have e39:((39:UInt8).toNat:Int)=39:=rfl
 rw [e39] at hw1
 have hbl:(zbf s).length=s.size:=zcp s
 simp only [zrN,zAf]
 simp [hw1,hml,hbl]
 rw [zay,zar]
 refine zns s hs s.data.toList 0 (by simp) _ _ _ _ H.objs.length [39] ?_ ?_ ?_ ?_ (by simpa using hB1) (by simp; omega) ?_
 ·simp
 ·simp
 ·simp
 ·simp
 ·intro l' H' h1 h2
  obtain ⟨H2,hw2,hB2⟩:=zdp h2 (by have:=ztT s.data.toList; simp; omega) 39
  rw [e39] at hw2
  have hbu:=zDK hB2
  simp [h1,hw2,hbu,zyR]
theorem ba_ext {a b:ByteArray} (h:a.data.toList=b.data.toList):a=b:=by
 rcases a with ⟨a⟩; rcases b with ⟨b⟩
 have:a=b:=Array.toList_inj.1 h
 rw [this]
theorem zio {a b:ByteArray} (h:a.size+b.size≤100000):zg7 .add a b=some (.str (a++b)):=by
 simp only [zg7]; rw [if_pos (by simp [maxLen]; omega)]
theorem ba_size (l:List UInt8):(⟨l.toArray⟩:ByteArray).size=l.length:=by
 show l.toArray.size=_
 simp
theorem bs_size (a:ByteArray):a.size=a.data.toList.length:=by simp
theorem tb1 (x:Int):zcM [.int .u8 x]=some [UInt8.ofNat x.toNat]:=rfl
theorem zkt (n:Int) (h1 : -1099511627776≤n) (h2:n≤1099511627776):(Lib.itoa n).length≤20:=by
 unfold Lib.itoa
 split
 ·have:=zgJ 15 n.natAbs (by omega) (by omega)
  simp [Lib.decDigits_length]; omega
 ·have:=zgJ 15 n.toNat (by omega) (by omega)
  simp [Lib.decDigits_length]; omega
theorem zop (b:Bool) (H:GH):ecall T zu9 [.bool b] H=some (.str (if b=true then ⟨#[116,114,117,101]⟩ else ⟨#[102,97,108,115,101]⟩),H):=by
 have h88:ecall T zvd [.bool b] H=some (.str (if b=true then ⟨#[116,114,117,101]⟩ else ⟨#[102,97,108,115,101]⟩),H):=by
  apply optW.eq
  rw [zad zDh rfl (by simp [zrO]),zab]
  cases b <;> simp [zrO,zAg]
 apply optW.eq
 rw [zad zDc rfl (by simp [zrM]),zab]
 simp [zrM,zAe,h88]
theorem zwR (n:Int) (h1 : -9223372036854775808≤n) (h2:n≤9223372036854775807) (H:GH):ecall T zxy [.int .i64 n] H=some (.str ⟨(Lib.itoa n).toArray⟩,H):=by
 rw [zc4 zDd (by decide) (by simp [zvi])]
 simp [ziz,zmI,zxZ,zvi,h1,h2]
theorem zlX (k n:Int) (s:ByteArray) (hs:s.size≤1000) (hn1 : -9223372036854775808≤n) (hn2:n≤9223372036854775807) (H:GH) :
 ecall T zq3 [.agg [.int .i64 k,.int .i64 n,.str s]] H=some (.str ⟨(zzs k n s.data.toList).toArray⟩,H):=by
 apply optW.eq
 rw [zad zC6 rfl (by simp [zg2]),zab]
 have hr:=ziu k n s (.inr (by omega)) hn1 hn2 H
 unfold zzs
 cases hrv:zdV k n s.data.toList <;> rw [hrv] at hr
 ·simp [zg2,zjU,hr]
 ·rcases ziv hrv with ⟨rfl,h2,h3⟩ | ⟨rfl,h2,h3⟩ | ⟨rfl,h2,h3⟩ | ⟨rfl,h1,h2,h3⟩ | ⟨rfl,h2⟩ | ⟨rfl,h2⟩ | ⟨rfl,h2⟩
  ·simp [zg2,zjU,hr,znz]
  ·subst h2
   have hf:=zop false H
   simp [zg2,zjU,hr,znz,hf]
  ·subst h2
   have hf:=zop true H
   simp [zg2,zjU,hr,znz,hf]
  ·simp [zg2,zjU,hr,znz,zwR n hn1 hn2]
  ·simp [zg2,zjU,hr,znz,zlW s hs]
  ·have a1:zg7 .add (⟨#[40]⟩:ByteArray) s=_:=zio (by show (1:Nat)+_≤_; omega)
   have a2:zg7 .add ((⟨#[40]⟩:ByteArray)++s) (⟨#[41]⟩:ByteArray)=_:=zio (by rw [bs_size]; show _+(1:Nat)≤_; simp; omega)
   simp [zg2,zjU,hr,znz,a1,a2]
   apply ba_ext; simp
  ·have a1:zg7 .add (⟨#[91]⟩:ByteArray) s=_:=zio (by show (1:Nat)+_≤_; omega)
   have a2:zg7 .add ((⟨#[91]⟩:ByteArray)++s) (⟨#[93]⟩:ByteArray)=_:=zio (by rw [bs_size]; show _+(1:Nat)≤_; simp; omega)
   simp [zg2,zjU,hr,znz,a1,a2]
   apply ba_ext; simp
end Go.Proofs.YtchjbidfmhmmhaaGreatDoor
