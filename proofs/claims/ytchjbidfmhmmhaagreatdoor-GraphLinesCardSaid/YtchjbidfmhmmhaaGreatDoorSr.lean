/- Own work: the zaO machine and what it shows, part Sr. -/
import Derived.Test.YtchjbidfmhmmhaaGreatDoorVa
set_option linter.all false
namespace Go.Proofs.YtchjbidfmhmmhaaGreatDoor
open Go.Sh
set_option maxHeartbeats 4000000
set_option maxRecDepth 100000
def u8s (bs:List UInt8):List GV:=bs.map fun b=>.int .u8 b.toNat
def RowOk (toks:List Nat) (bt:Nat) (sl:GV) (bs:List UInt8):Prop :=
 (bs=[]∧sl=.nilsl)∨∃ t pos,bs≠[]∧sl=.sl 1 (u8s bs) (.tok t pos (some 5))∧toks[t]?=some pos∧bt≤t
structure Bld (H:GH) (id:Nat) (bs:List UInt8):Prop where
 bo:H.bo≤id
 bt:H.bt≤H.toks.length
 obj:∃ p sl,H.objs[id]?=some (.cells 176 [p,sl])∧(p=.nilptr∨p=.ptr id 0)∧RowOk H.toks H.bt sl bs
theorem zv4 {H:GH} {id:Nat} {p sl:GV} (hb:H.bo≤id) (ho:H.objs[id]?=some (.cells 176 [p,sl])) (hp:p=.nilptr∨p=.ptr id 0) :
 ∃ objs,ecall T zzM [.ptr id 0] H=some (.tup [],{ H with objs:=objs })∧objs[id]?=some (.cells 176 [.ptr id 0,sl]):=by
 rw [zdn zFU (by decide) (by simp [ztN])]
 rcases hp with rfl | rfl
 ·refine ⟨H.objs.set id (.cells 176 [.ptr id 0,sl]), ?_,obj_set ho⟩
  simp [zjh,zzm,zuK,ztN,ho,hb]
 ·refine ⟨H.objs, ?_,ho⟩
  simp [zjh,zzm,zuK,ztN,ho]
theorem zA2 {H:GH} {sl:GV} {bs:List UInt8} (hr:RowOk H.toks H.bt sl bs) (hbt:H.bt≤H.toks.length) (hl:bs.length≤100000) (c:UInt8) :
 ∃ s' toks',zaV H 5 1 1 sl (.sl 1 [.int .u8 c.toNat] .exact)=some (s',{ H with toks:=toks' })∧RowOk toks' H.bt s' (bs++[c])∧H.bt≤toks'.length∧s'.ok=true∧s'.one=true∧s'.cells=[s']∧(∀ t,zbJ t sl=sl)∧(∀ t,zbJ t s'=s'):=by
 have h1:(1:Nat)≤zdu∧(1:Nat)≤maxLen:=⟨by simp [zdu],by simp [maxLen]⟩
 have h2:bs.length+1≤zdu∧bs.length+1≤maxLen:=⟨by simp [zdu]; omega,by simp [maxLen]; omega⟩
 rcases hr with ⟨rfl,rfl⟩ | ⟨t,pos,hne,rfl,ht,hb⟩
 ·refine ⟨.sl 1 [.int .u8 c.toNat] (.tok H.toks.length 1 (some 5)),H.toks++[1], ?_,.inr ⟨H.toks.length,1,by simp,rfl,by simp,hbt⟩,by simp; omega,rfl,rfl,rfl,fun _=>rfl,fun _=>rfl⟩
  simp [zaV,zbB,h1]
 ·have hlt:t<H.toks.length:=(List.getElem?_eq_some_iff.1 ht).1
  refine ⟨.sl 1 (u8s bs++[.int .u8 c.toNat]) (.tok t (pos+1) (some 5)),H.toks.set t (pos+1), ?_,.inr ⟨t,pos+1,by simp,by simp [u8s],by simp [hlt],hb⟩,by simpa using hbt,rfl,rfl,rfl,fun _=>rfl,fun _=>rfl⟩
  simp [zaV,zbB,ht,hb,u8s,h2]
theorem zdP {H:GH} {id:Nat} {bs:List UInt8} (hB:Bld H id bs) (hl:bs.length≤100000) (c:UInt8) :
 ∃ H',ecall T znE [.ptr id 0,.int .u8 c.toNat] H=some (.niliface,H')∧Bld H' id (bs++[c]):=by
 obtain ⟨hbo,hbt,p,sl,ho,hp,hrow⟩:=hB
 obtain ⟨objs,hcc,ho'⟩:=zv4 hbo ho hp
 have hbt':({ H with objs:=objs } : GH).bt≤({ H with objs:=objs } : GH).toks.length:=hbt
 obtain ⟨s',toks',happ,hrow',hbt2,hok,hone,hcells,hu1,hu2⟩:=zA2 (H:={ H with objs:=objs }) hrow hbt' hl c
 refine ⟨{ H with objs:=objs.set id (.cells 176 [.ptr id 0,s']),toks:=toks' }, ?_,hbo,hbt2,.ptr id 0,s',obj_set (H:={ H with objs:=objs }) ho',.inr rfl,hrow'⟩
 apply optW.eq
 rw [zag zF2 rfl (by simp [ztS]),zab]
 simp only [ztS,zCH]
 simp [hcc,ho',zak,happ,hok,hone,hcells,hbo,hu1,hu2,zae]
theorem zGr {H:GH} {id:Nat} {bs:List UInt8} (hB:Bld H id bs):ecall T zzK [.ptr id 0] H=some (.str ⟨bs.toArray⟩,H):=by
 obtain ⟨hbo,hbt,p,sl,ho,hp,hrow⟩:=hB
 rw [zdn zFL (by decide) (by simp [ztJ])]
 rcases hrow with ⟨rfl,rfl⟩ | ⟨t,pos,hne,rfl,ht,hb⟩
 ·simp [zjh,zn6,zpm,ztJ,ho]
 ·have hr:∀ l:List UInt8,zfQ (u8s l)=some l:=by
   intro l
   induction l with
   | nil=>rfl
   | cons b l ih =>
    have:=b.toNat_lt
    have e:u8s (b::l)=.int .u8 b.toNat::u8s l:=rfl
    rw [e,zfQ,if_pos (by omega),ih]
    simp
  cases bs with
  | nil=>exact absurd rfl hne
  | cons b l =>
   have:=hr (b::l)
   have e:u8s (b::l)=.int .u8 b.toNat::u8s l:=rfl
   rw [e] at this
   simp [zjh,zn6,zpm,ztJ,ho,e,ht,hb,this]
theorem zoR (l:List UInt8):(zkz l).length≤2 * l.length:=by
 induction l with
 | nil=>simp [zkz]
 | cons c l ih=>unfold zkz; split <;> simp <;> omega
theorem zoS (s:ByteArray) (hs:s.size≤1000) (cs:List UInt8):∀ (i:Nat) (_:s.data.toList.drop i=cs) (l:List GV) (g:Nat) (H:GH) (K:GExit × St→Prop) (id:Nat) (bs:List UInt8)
 (_:zad l 8=.sl 1 (zbo s) .imm) (_:zad l 9=.int .i64 s.size) (_:zad l 10=.int .i64 i) (_:zad l 3=.ptr id 0)
 (_:Bld H id bs) (_:bs.length+2 * cs.length≤10000)
 (_:∀ (l':List GV) (H':GH),zad l' 3=.ptr id 0→Bld H' id (bs++zkz cs)→K (.exit 0,⟨⟨l',g⟩,H'⟩)),
 optW (erun T (.loop zj0) ⟨⟨l,g⟩,H⟩) K:=by
 induction cs with
 | nil =>
  intro i hd l g H K id bs h8 h9 h10 h3 hB hl he
  have hlen:=zcy hd
  have hge:¬ ((i:Int)<s.size):=by
   have:s.size=s.data.toList.length:=by simp
   omega
  rw [zam]
  simp [zj0,h9,h10,hge]
  exact he _ H (by simp [h3]) (by simpa [zkz] using hB)
 | cons c cs ih =>
  intro i hd l g H K id bs h8 h9 h10 h3 hB hl he
  obtain ⟨hg,hi,hd'⟩:=zcd hd
  have hsz:s.size=s.data.toList.length:=by simp
  have hlt:(i:Int)<s.size:=by omega
  have hbl:(zbo s).length=s.size:=zcE s
  have hix:gIx (zbo s).length (.int .i64 i)=some i:=by rw [hbl]; exact znd hlt
  have hw:IntKind.i64.wrap ((i:Int)+1)=(i:Int)+1:=zan (by omega) (by omega)
  have hge:(zbo s)[i]?=some (.int .u8 c.toNat):=by simp only [zbo,List.getElem?_map,hg]; rfl
  rw [zam,zao]
  simp only [List.length_cons] at hl
  by_cases h39:c=39∨c=92
  ·obtain ⟨H1,hw1,hB1⟩:=zdP hB (by omega) 92
   obtain ⟨H2,hw2,hB2⟩:=zdP hB1 (by simp; omega) c
   have e92:((92:UInt8).toNat:Int)=92:=rfl
   rw [e92] at hw1
   have hq:bs++zkz (c::cs)=(bs++[92]++[c])++zkz cs:=by simp [zkz,h39]
   rcases h39 with rfl | rfl
   ·have e39:((39:UInt8).toNat:Int)=39:=rfl
    rw [e39] at hw2 hge
    simp [zj0,h8,h9,h10,h3,hlt,hix,hge,hw1,hw2,hw]
    refine ih (i+1) hd' _ g H2 K id _ ?_ ?_ ?_ ?_ hB2 (by simp; omega) ?_
    ·simp [h8]
    ·simp [h9]
    ·simp
    ·simp [h3]
    ·intro l' H' h1 h2; exact he l' H' h1 (by rw [hq]; exact h2)
   ·rw [e92] at hw2 hge
    simp [zj0,h8,h9,h10,h3,hlt,hix,hge,hw1,hw2,hw]
    refine ih (i+1) hd' _ g H2 K id _ ?_ ?_ ?_ ?_ hB2 (by simp; omega) ?_
    ·simp [h8]
    ·simp [h9]
    ·simp
    ·simp [h3]
    ·intro l' H' h1 h2; exact he l' H' h1 (by rw [hq]; exact h2)
  ·have hn1:¬ c=39:=fun h=>h39 (.inl h)
   have hn2:¬ c=92:=fun h=>h39 (.inr h)
   have a1:¬ c.toNat=39:=fun h=>hn1 (UInt8.toNat_inj.1 h)
   have a2:¬ c.toNat=92:=fun h=>hn2 (UInt8.toNat_inj.1 h)
   have b1:¬ (c.toNat:Int)=39:=by omega
   have b2:¬ (c.toNat:Int)=92:=by omega
   obtain ⟨H1,hw1,hB1⟩:=zdP hB (by omega) c
   have hq:bs++zkz (c::cs)=(bs++[c])++zkz cs:=by simp [zkz,hn1,hn2]
   simp [zj0,h8,h9,h10,h3,hlt,hix,hge,hw1,hw,a1,a2,b1,b2]
   refine ih (i+1) hd' _ g H1 K id _ ?_ ?_ ?_ ?_ hB1 (by simp; omega) ?_
   ·simp [h8]
   ·simp [h9]
   ·simp
   ·simp [h3]
   ·intro l' H' h1 h2; exact he l' H' h1 (by rw [hq]; exact h2)
theorem zA3 (H:GH):Bld (H.over.newObj (.cells 176 [.nilptr,.nilsl])) H.objs.length []:=by
 refine ⟨Nat.le_refl _,Nat.le_refl _,.nilptr,.nilsl, ?_,.inl rfl,.inl ⟨rfl,rfl⟩⟩
 simp [GH.newObj,GH.over]
theorem zA4 (a b:Nat) (x:ByteArray):zaM a b 100 (.str x)=some (.str x):=rfl
theorem zna (s:ByteArray) (hs:s.size≤1000) (H:GH):ecall T zxf [.str s] H=some (.str ⟨(39::(zkz s.data.toList++[39])).toArray⟩,H):=by
 apply optW.eq
 rw [zbd zFX rfl (by simp [ztP]),zab]
 have hsz:s.size=s.data.toList.length:=by simp
 have hml:s.size≤maxLen:=by simp [maxLen]; omega
 obtain ⟨H1,hw1,hB1⟩:=zdP (zA3 H) (by simp) 39
 have e39:((39:UInt8).toNat:Int)=39:=rfl
 rw [e39] at hw1
 have hbl:(zbo s).length=s.size:=zcE s
 simp only [ztP,zCE]
 simp [hw1,hml,hbl]
 rw [zao,zai]
 refine zoS s hs s.data.toList 0 (by simp) _ _ _ _ H.objs.length [39] ?_ ?_ ?_ ?_ (by simpa using hB1) (by simp; omega) ?_
 ·simp
 ·simp
 ·simp
 ·simp
 ·intro l' H' h1 h2
  obtain ⟨H2,hw2,hB2⟩:=zdP h2 (by have:=zoR s.data.toList; simp; omega) 39
  rw [e39] at hw2
  have hbu:=zGr hB2
  simp [h1,hw2,hbu,zA4]
theorem ba_ext {a b:ByteArray} (h:a.data.toList=b.data.toList):a=b:=by
 rcases a with ⟨a⟩; rcases b with ⟨b⟩
 have:a=b:=Array.toList_inj.1 h
 rw [this]
theorem zdo {a b:ByteArray} (h:a.size+b.size≤100000):zcM .add a b=some (.str (a++b)):=by
 simp only [zcM]; rw [if_pos (by simp [maxLen]; omega)]
theorem ba_size (l:List UInt8):(⟨l.toArray⟩:ByteArray).size=l.length:=by
 show l.toArray.size=_
 simp
theorem bs_size (a:ByteArray):a.size=a.data.toList.length:=by simp
theorem tb1 (x:Int):zc4 [.int .u8 x]=some [UInt8.ofNat x.toNat]:=rfl
theorem zlA (n:Int) (h1 : -1099511627776≤n) (h2:n≤1099511627776):(Lib.itoa n).length≤20:=by
 unfold Lib.itoa
 split
 ·have:=zhr 15 n.natAbs (by omega) (by omega)
  simp [Lib.decDigits_length]; omega
 ·have:=zhr 15 n.toNat (by omega) (by omega)
  simp [Lib.decDigits_length]; omega
theorem zEa (N:Nat):∀ n:Int,n.natAbs=N→-1099511627776≤n→n≤1099511627776→∀ H:GH,ecall T znD [.int .i64 n] H=some (.str ⟨(Lib.itoa n).toArray⟩,H):=by
 induction N using Nat.strongRecOn with
 | _ N ih =>
  intro n hN h1 h2 H
  apply optW.eq
  rw [zag zFY rfl (by simp [ztQ]),zab]
  rw [zy3]
  simp only [ztQ,zCF]
  by_cases hn:n<0
  ·by_cases hn10 : -10<n
   ·have w1:IntKind.i64.wrap (48 - n)=48 - n:=zan (by omega) (by omega)
    have w2:IntKind.u8.wrap (48 - n)=48 - n:=zh4 (by omega) (by omega)
    have ha:zcM .add (⟨#[45]⟩:ByteArray) ⟨#[UInt8.ofNat (48 - n).toNat]⟩=_:=zdo (by show (1:Nat)+1≤_; omega)
    simp [hn,hn10,w1,w2,zak,tb1,ha]
    apply ba_ext
    have:(48 - n).toNat=48+n.natAbs:=by omega
    simp [this]
   ·obtain ⟨m,hm⟩:∃ m:Nat,n=-(m:Int):=⟨n.natAbs,by omega⟩
    have eq:n.tdiv 10=-((m / 10:Nat):Int):=by rw [hm,Int.neg_tdiv]; simp
    have er:n.tmod 10=-((m % 10:Nat):Int):=by rw [hm,Int.neg_tmod]; congr 1
    have hq:IntKind.i64.wrap (n.tdiv 10)=n.tdiv 10:=zan (by omega) (by omega)
    have hi:=ih (n.tdiv 10).natAbs (by omega) (n.tdiv 10) rfl (by omega) (by omega) H
    have w1:IntKind.i64.wrap (48 - n.tmod 10)=48 - n.tmod 10:=zan (by omega) (by omega)
    have w2:IntKind.u8.wrap (48 - n.tmod 10)=48 - n.tmod 10:=zh4 (by omega) (by omega)
    have hlen:=zlA (n.tdiv 10) (by omega) (by omega)
    have ha:zcM .add ⟨(Lib.itoa (n.tdiv 10)).toArray⟩ ⟨#[UInt8.ofNat (48 - n.tmod 10).toNat]⟩=_:=zdo (by rw [ba_size]; show _+(1:Nat)≤_; omega)
    simp [hn,hn10,hq,hi,w1,w2,zak,tb1,ha,zkc]
    apply ba_ext
    have:(48 - n.tmod 10).toNat=48+(n.tmod 10).natAbs:=by omega
    simp [this]
  ·by_cases hn10:n<10
   ·have w1:IntKind.i64.wrap (48+n)=48+n:=zan (by omega) (by omega)
    have w2:IntKind.u8.wrap (48+n)=48+n:=zh4 (by omega) (by omega)
    simp [hn,hn10,w1,w2,zak,tb1]
    have:(48+n).toNat=48+n.natAbs:=by omega
    rw [this]; exact UInt8.ofNat_add 48 _
   ·obtain ⟨m,hm⟩:∃ m:Nat,n=(m:Int):=⟨n.natAbs,by omega⟩
    have eq:n.tdiv 10=((m / 10:Nat):Int):=by rw [hm]; simp
    have er:n.tmod 10=((m % 10:Nat):Int):=by rw [hm]; exact (Int.ofNat_tmod m 10).symm
    have hq:IntKind.i64.wrap (n.tdiv 10)=n.tdiv 10:=zan (by omega) (by omega)
    have hi:=ih (n.tdiv 10).natAbs (by omega) (n.tdiv 10) rfl (by omega) (by omega) H
    have w1:IntKind.i64.wrap (48+n.tmod 10)=48+n.tmod 10:=zan (by omega) (by omega)
    have w2:IntKind.u8.wrap (48+n.tmod 10)=48+n.tmod 10:=zh4 (by omega) (by omega)
    have hlen:=zlA (n.tdiv 10) (by omega) (by omega)
    have ha:zcM .add ⟨(Lib.itoa (n.tdiv 10)).toArray⟩ ⟨#[UInt8.ofNat (48+n.tmod 10).toNat]⟩=_:=zdo (by rw [ba_size]; show _+(1:Nat)≤_; omega)
    simp [hn,hn10,hq,hi,w1,w2,zak,tb1,ha,zkc]
    apply ba_ext
    have:(48+n.tmod 10).toNat=48+(n.tmod 10).natAbs:=by omega
    simp [this]
theorem zrV (n:Int) (h1 : -1099511627776≤n) (h2:n≤1099511627776) (H:GH):ecall T znD [.int .i64 n] H=some (.str ⟨(Lib.itoa n).toArray⟩,H):=zEa _ n rfl h1 h2 H
theorem zpL (b:Bool) (H:GH):ecall T zxe [.bool b] H=some (.str (if b=true then ⟨#[116,114,117,101]⟩ else ⟨#[102,97,108,115,101]⟩),H):=by
 have h88:ecall T zxi [.bool b] H=some (.str (if b=true then ⟨#[116,114,117,101]⟩ else ⟨#[102,97,108,115,101]⟩),H):=by
  apply optW.eq
  rw [zag zF1 rfl (by simp [ztR]),zab]
  cases b <;> simp [ztR,zCG]
 apply optW.eq
 rw [zag zFV rfl (by simp [ztO]),zab]
 simp [ztO,zCD,h88]
theorem zyX (n:Int) (h1 : -9223372036854775808≤n) (h2:n≤9223372036854775807) (H:GH):ecall T zzN [.int .i64 n] H=some (.str ⟨(Lib.itoa n).toArray⟩,H):=by
 rw [zdn zFW (by decide) (by simp [zxo])]
 simp [zjh,zn6,zAd,zxo,h1,h2]
theorem znb (k n:Int) (s:ByteArray) (hs:s.size≤1000) (hn1 : -9223372036854775808≤n) (hn2:n≤9223372036854775807) (H:GH) :
 ecall T zsG [.agg [.int .i64 k,.int .i64 n,.str s]] H=some (.str ⟨(zzB k n s.data.toList).toArray⟩,H):=by
 apply optW.eq
 rw [zag zFM rfl (by simp [zhM]),zab]
 have hr:=zjc k n s (.inr (by omega)) hn1 hn2 H
 unfold zzB
 cases hrv:zdS k n s.data.toList <;> rw [hrv] at hr
 ·simp [zhM,zkQ,hr]
 ·rcases zf5 hrv with ⟨rfl,h2,h3⟩ | ⟨rfl,h2,h3⟩ | ⟨rfl,h2,h3⟩ | ⟨rfl,h1,h2,h3⟩ | ⟨rfl,h2⟩ | ⟨rfl,h2⟩ | ⟨rfl,h2⟩
  ·simp [zhM,zkQ,hr,zji]
  ·subst h2
   have hf:=zpL false H
   simp [zhM,zkQ,hr,zji,hf]
  ·subst h2
   have hf:=zpL true H
   simp [zhM,zkQ,hr,zji,hf]
  ·simp [zhM,zkQ,hr,zji,zyX n hn1 hn2]
  ·simp [zhM,zkQ,hr,zji,zna s hs]
  ·have a1:zcM .add (⟨#[40]⟩:ByteArray) s=_:=zdo (by show (1:Nat)+_≤_; omega)
   have a2:zcM .add ((⟨#[40]⟩:ByteArray)++s) (⟨#[41]⟩:ByteArray)=_:=zdo (by rw [bs_size]; show _+(1:Nat)≤_; simp; omega)
   simp [zhM,zkQ,hr,zji,a1,a2]
   apply ba_ext; simp
  ·have a1:zcM .add (⟨#[91]⟩:ByteArray) s=_:=zdo (by show (1:Nat)+_≤_; omega)
   have a2:zcM .add ((⟨#[91]⟩:ByteArray)++s) (⟨#[93]⟩:ByteArray)=_:=zdo (by rw [bs_size]; show _+(1:Nat)≤_; simp; omega)
   simp [zhM,zkQ,hr,zji,a1,a2]
   apply ba_ext; simp
theorem zEb {s:ByteArray} {i:Nat} {c:UInt8} {cs:List UInt8} (hd:s.data.toList.drop i=c::cs):zay s.size true true false [.int .i64 (i:Int),.int .i64 ((i:Int)+1)]=some (i,i+1,none)∧(s.extract i (i+1)).data.toList=[c]∧(s.extract i (i+1)).size=1:=by
 obtain ⟨hg,hi,_⟩:=zcd hd
 have hsz:=bs_size s
 have e1:zbH s.size (.int .i64 ((i:Int)+1))=some (i+1):=by simp only [zbH]; rw [if_pos (by omega)]; congr 1
 have e2:zbH (i+1) (.int .i64 (i:Int))=some i:=by simp only [zbH]; rw [if_pos (by omega)]; simp
 have hxs:(s.extract i (i+1)).data.toList=[c]:=by rw [Lib.extract_data,show i+1 - i=1 by omega,hd]; rfl
 exact ⟨by simp [zay,e1,e2],hxs,by rw [bs_size,hxs]; rfl⟩
theorem zrW (s:ByteArray) (hs:s.size≤1000) (kv nv:GV) (g1:Nat) (cs:List UInt8):∀ (i:Nat) (_:s.data.toList.drop i=cs) (l:List GV) (g:Nat) (H:GH) (K:GExit × St→Prop) (acc:ByteArray)
 (_:zad l 1=.lbox g1 [kv,nv,.str s]) (_:zad l 3=.str acc) (_:zad l 4=.int .i64 i) (_:acc.size+2 * cs.length≤10000)
 (_:∀ (l':List GV) (acc':ByteArray),zad l' 3=.str acc'→acc'.data.toList=acc.data.toList++zkz cs→K (.exit 1,⟨⟨l',g⟩,H⟩)),
 optW (erun T (.loop zjY) ⟨⟨l,g⟩,H⟩) K:=by
 induction cs with
 | nil =>
  intro i hd l g H K acc h1 h3 h4 hl he
  have hlen:=zcy hd
  have hge:¬ ((i:Int)<s.size):=by
   have:=bs_size s
   omega
  rw [zam]
  simp [zjY,h1,h4,hge]
  exact he _ acc (by simp [h3]) (by simp [zkz])
 | cons c cs ih =>
  intro i hd l g H K acc h1 h3 h4 hl he
  obtain ⟨hg,hi,hd'⟩:=zcd hd
  obtain ⟨hgb,hxs,hxz⟩:=zEb hd
  have hsz:=bs_size s
  have hlt:(i:Int)<s.size:=by omega
  have hix:=znd hlt
  have hw:IntKind.i64.wrap ((i:Int)+1)=(i:Int)+1:=zan (by omega) (by omega)
  have hg':s.data[i]?=some c:=by simpa using hg
  simp only [List.length_cons] at hl
  rw [zam,zao]
  by_cases h39:c=39∨c=92
  ·have a1:zcM .add acc (⟨#[92]⟩:ByteArray)=_:=zdo (by show _+(1:Nat)≤_; omega)
   have z1:(acc++(⟨#[92]⟩:ByteArray)).size=acc.size+1:=by
    rw [bs_size,bs_size acc]; simp
   have a2:zcM .add (acc++(⟨#[92]⟩:ByteArray)) (s.extract i (i+1))=_:=zdo (by rw [hxz,z1]; omega)
   have z2:(acc++(⟨#[92]⟩:ByteArray)++s.extract i (i+1)).size=acc.size+2:=by
    rw [ByteArray.size_append,z1,hxz]
   rcases h39 with rfl | rfl
   ·simp [zjY,h1,h3,h4,hlt,hix,zbP,hg',hw,zak,tb1,a1,a2,hgb]
    refine ih (i+1) hd' _ g H K (acc++(⟨#[92]⟩:ByteArray)++s.extract i (i+1)) ?_ ?_ ?_ (by rw [z2]; omega) ?_
    ·simp [h1]
    ·simp
    ·simp
    ·intro l' acc' e1 e2
     refine he l' acc' e1 ?_
     rw [e2,ByteArray.data_append,Array.toList_append,hxs]
     simp [zkz]
   ·simp [zjY,h1,h3,h4,hlt,hix,zbP,hg',hw,zak,tb1,a1,a2,hgb]
    refine ih (i+1) hd' _ g H K (acc++(⟨#[92]⟩:ByteArray)++s.extract i (i+1)) ?_ ?_ ?_ (by rw [z2]; omega) ?_
    ·simp [h1]
    ·simp
    ·simp
    ·intro l' acc' e1 e2
     refine he l' acc' e1 ?_
     rw [e2,ByteArray.data_append,Array.toList_append,hxs]
     simp [zkz]
  ·have hn1:¬ c=39:=fun h=>h39 (.inl h)
   have hn2:¬ c=92:=fun h=>h39 (.inr h)
   have n1:¬ c.toNat=39:=fun h=>hn1 (UInt8.toNat_inj.1 h)
   have n2:¬ c.toNat=92:=fun h=>hn2 (UInt8.toNat_inj.1 h)
   have b1:¬ (c.toNat:Int)=39:=by omega
   have b2:¬ (c.toNat:Int)=92:=by omega
   have a2:zcM .add acc (s.extract i (i+1))=_:=zdo (by rw [hxz]; omega)
   have z2:(acc++s.extract i (i+1)).size=acc.size+1:=by rw [ByteArray.size_append,hxz]
   simp [zjY,h1,h3,h4,hlt,hix,zbP,hg',hw,a2,hgb,n1,n2,b1,b2]
   refine ih (i+1) hd' _ g H K (acc++s.extract i (i+1)) ?_ ?_ ?_ (by rw [z2]; omega) ?_
   ·simp [h1]
   ·simp
   ·simp
   ·intro l' acc' e1 e2
    refine he l' acc' e1 ?_
    rw [e2,ByteArray.data_append,Array.toList_append,hxs]
    simp [zkz,hn1,hn2]
theorem zyY (k n:Int) (s:ByteArray) (hs:s.size≤1000) (H:GH) :
 ecall T zsH [.agg [.int .i64 k,.int .i64 n,.str s]] H=some (.str ⟨(zzB k n s.data.toList).toArray⟩,H):=by
 apply optW.eq
 rw [zag zFN rfl (by simp [zhN]),zab]
 have hr:=znf k n s (by omega) H
 unfold zzB
 cases hrv:zdS k n s.data.toList <;> rw [hrv] at hr
 ·simp [zhN,zkR,hr]
 ·rcases zf5 hrv with ⟨rfl,h2,h3⟩ | ⟨rfl,h2,h3⟩ | ⟨rfl,h2,h3⟩ | ⟨rfl,h1,h2,h3⟩ | ⟨rfl,h2⟩ | ⟨rfl,h2⟩ | ⟨rfl,h2⟩
  ·simp [zhN,zkR,hr,zji]
  ·subst h2
   simp [zhN,zkR,hr,zji]
  ·subst h2
   simp [zhN,zkR,hr,zji]
  ·simp [zhN,zkR,hr,zji,zrV n h1 h2]
  ·simp [zhN,zkR,hr,zji]
   rw [zao,zai]
   refine zrW s hs (.int .i64 3) (.int .i64 n) 0 s.data.toList 0 (by simp) _ _ _ _ (⟨#[39]⟩:ByteArray) ?_ ?_ ?_ ?_ ?_
   ·simp
   ·simp
   ·simp
   ·have:=bs_size s
    show (1:Nat)+_≤_
    omega
   ·intro l' acc' e1 e2
    have hz:acc'.size≤3000:=by
     rw [bs_size,e2]
     have:=zoR s.data.toList
     have:=bs_size s
     simp; omega
    have a2:zcM .add acc' (⟨#[39]⟩:ByteArray)=_:=zdo (by show _+(1:Nat)≤_; omega)
    simp [e1,a2]
    apply ba_ext
    rw [ByteArray.data_append,Array.toList_append,e2]
    simp
  ·have a1:zcM .add (⟨#[40]⟩:ByteArray) s=_:=zdo (by show (1:Nat)+_≤_; omega)
   have a2:zcM .add ((⟨#[40]⟩:ByteArray)++s) (⟨#[41]⟩:ByteArray)=_:=zdo (by rw [bs_size]; show _+(1:Nat)≤_; simp; omega)
   simp [zhN,zkR,hr,zji,a1,a2]
   apply ba_ext; simp
  ·have a1:zcM .add (⟨#[91]⟩:ByteArray) s=_:=zdo (by show (1:Nat)+_≤_; omega)
   have a2:zcM .add ((⟨#[91]⟩:ByteArray)++s) (⟨#[93]⟩:ByteArray)=_:=zdo (by rw [bs_size]; show _+(1:Nat)≤_; simp; omega)
   simp [zhN,zkR,hr,zji,a1,a2]
   apply ba_ext; simp
end Go.Proofs.YtchjbidfmhmmhaaGreatDoor
