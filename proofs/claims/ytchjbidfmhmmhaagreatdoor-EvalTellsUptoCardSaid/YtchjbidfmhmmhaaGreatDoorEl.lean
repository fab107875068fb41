/- Own work: the zaM machine and what it shows, part El. -/
import Derived.Test.YtchjbidfmhmmhaaGreatDoorVa
import Derived.Test.YtchjbidfmhmmhaaGreatDoorShF
import Derived.Test.YtchjbidfmhmmhaaGreatDoorVp
import Derived.Test.YtchjbidfmhmmhaaGreatDoorLib
import Derived.Test.YtchjbidfmhmmhaaGreatDoorShH
set_option linter.all false
namespace Go.Proofs.YtchjbidfmhmmhaaGreatDoor
open Go.Sh
set_option maxRecDepth 100000
theorem zad {sz:Nat} {s:GV} {xs:List GV} (h:Elems sz s xs) (t:Nat):zbl t s=s:=by cases h <;> rfl
def zbB (l:List UInt8):GV:=.str (mkB l)
def znv (L:List (List UInt8)) (t:Tag):GV:=.sl 1 (L.map zbB) t
theorem zlL:∀ L:List (List UInt8),ziG (L.map zbB)=some (L.map mkB)
 | []=>rfl
 | l::L=>by simp [ziG,zbB,zlL L]
theorem zAE (v:GV) (L:List (List UInt8)) (hv:Elems 1 v (L.map zbB)) (sep:List UInt8) (h1:L.length≤1048576) (h2:(Lib.join L sep).length≤100000000) (H:GH):ecall T zs5 [v,.str (mkB sep)] H=some (.str (mkB (Lib.join L sep)),H):=by
 rw [zgX zD7 (by decide) (by simp [zpz])]
 generalize hxs:L.map zbB=xs at hv
 cases hv with
 | nil =>
  have:L=[]:=by simpa using hxs
  subst this
  rfl
 | sl xs t =>
  subst hxs
  have e:(L.map mkB).map (fun s:ByteArray=>s.data.toList)=L:=by simp [List.map_map,Function.comp_def]
  simp only [zny,zw5,zA5,zpz,zlL,Option.bind_some,zbC,List.length_map]
  have hc:L.length≤140737488355328∧(Lib.join L sep).length≤140737488355328:=⟨by omega,by omega⟩
  rw [e,if_pos hc]
  rfl
theorem znF (a:List UInt8) (ha:a.length≤2000000) (H:GH):ecall T zij [.str (mkB a)] H=some (.bool (zaz a),H):=by
 have:=zdf (mkB a) (by rw [zfo]; omega) H
 rwa [zbC] at this
theorem zxp (all:List (List UInt8)) (t:Tag) (hall:all.length≤1000) (hsz:∀ w∈all,w.length≤2000000) (xs:List (List UInt8)):∀ (j:Nat) (_:all.drop j=xs) (l:List GV) (g:Nat) (H:GH) (K:GExit × St→Prop)
 (_:zai l 5=znv all t) (_:zai l 6=.int .i64 all.length) (_:zai l 7=.int .i64 j)
 (_:∀ (l':List GV),xs.all zaz=true→K (.exit 0,⟨⟨l',g⟩,H⟩))
 (_:∀ (l':List GV),zai l' 2=.bool false→xs.all zaz=false→K (.ret,⟨⟨l',g⟩,H⟩)),
 optW (erun T (.loop zd2) ⟨⟨l,g⟩,H⟩) K:=by
 induction xs with
 | nil =>
  intro j hd l g H K h5 h6 h7 he hr
  have hle:all.length≤j:=by simpa using hd
  have hge:¬ ((j:Int)<all.length):=by omega
  have hge':¬ (j<all.length):=by omega
  rw [zao]
  simp [zd2,h6,h7,hge,hge']
  exact he _ rfl
 | cons x xs ih =>
  intro j hd l g H K h5 h6 h7 he hr
  have hj:j<all.length:=by
   rcases Nat.lt_or_ge j all.length with h1 | h1
   ·exact h1
   ·rw [List.drop_eq_nil_of_le h1] at hd; cases hd
  have hgv:all[j]?=some x:=by
   have:=congrArg (·[0]?) hd
   simpa using this
  have hd':all.drop (j+1)=xs:=by
   have:=congrArg List.tail hd
   simpa using this
  have hgd:∀ h:j<all.length,all[j]'h=x:=fun h=>by rw [List.getElem?_eq_getElem h] at hgv; exact Option.some.inj hgv
  have hlt:(j:Int)<all.length:=by omega
  have hix:gIx all.length (.int .i64 (j:Int))=some j:=by simp only [gIx]; rw [if_pos (by omega)]; simp
  have hw:IntKind.i64.wrap ((j:Int)+1)=(j:Int)+1:=zar (by omega) (by omega)
  have hn:=znF x (hsz x (List.mem_of_getElem? hgv)) H
  simp only [znv] at h5
  cases hx:zaz x <;> rw [hx] at hn
  ·rw [zao,zav]
   simp [zd2,h5,h6,h7,hlt,hj,hix,hgv,hgd,zbB,hn]
   exact hr _ (by simp) (by simp [hx])
  ·rw [zao,zav]
   simp [zd2,h5,h6,h7,hlt,hj,hix,hgv,hgd,zbB,hn,hw]
   refine ih (j+1) hd' _ _ H K ?_ ?_ ?_ ?_ ?_
   ·simp [h5,znv]
   ·simp [h6]
   ·simp
   ·intro l' e; exact he l' (by simpa [hx] using e)
   ·intro l' e2 e; exact hr l' e2 (by simpa [hx] using e)
theorem zpp (L:List (List UInt8)) (t:Tag) (hL:L.length≤1000) (hsz:∀ w∈L,w.length≤2000000) (H:GH):ecall T zdG [znv L t] H=some (.bool (L.all zaz),H):=by
 apply optW.eq
 rw [zae zAg rfl (by simp [zfJ]),zab]
 simp only [zfJ,zj6,znv]
 simp
 rw [zav,zap]
 refine zxp L t hL hsz L 0 rfl _ _ _ _ ?_ ?_ ?_ ?_ ?_
 ·simp [znv]
 ·simp
 ·simp
 ·intro l' e
  simp
  simpa using e
 ·intro l' e2 e
  simp [e2]
  simpa using e
theorem zAF:∀ (L:List (List UInt8)),Lib.join L []=L.flatten
 | []=>rfl
 | [x]=>by simp [Lib.join_one]
 | x::y::L=>by
  have:=zAF (y::L)
  simp only [Lib.join,List.intercalate,List.intersperse,List.flatten_cons,List.nil_append] at this ⊢
  rw [this]
theorem zkH (L:List (List UInt8)) (t:Tag) (h1:L.length≤1000) (h2:L.flatten.length≤100000000) (H:GH):ecall T zgm [znv L t] H=some (.bool (decide (L.flatten=[])),H):=by
 have hj:=zAE (znv L t) L (.sl _ _) [] (by omega) (by rw [zAF]; exact h2) H
 rw [zAF] at hj
 have e:mkB []=⟨#[]⟩:=rfl
 rw [e] at hj
 apply optW.eq
 rw [zae zEn rfl (by simp [zml]),zab]
 simp only [znv] at hj ⊢
 simp [zml,zAc,hj]
theorem zIi (a:List UInt8) (ha:a.length≤1048576) (H:GH):ecall T zdG [.sl 1 [.str (mkB a)] .exact] H=some (.bool (zaz a),H):=by
 have:=zpp [a] .exact (by simp) (by simp; omega) H
 simpa [znv,zbB] using this
theorem zIj (a b:List UInt8) (ha:a.length≤1048576) (hb:b.length≤1048576) (H:GH):ecall T zdG [.sl 1 [.str (mkB a),.str (mkB b)] .exact] H=some (.bool (zaz a&&zaz b),H):=by
 have:=zpp [a,b] .exact (by simp) (by simp; omega) H
 simpa [znv,zbB] using this
theorem zIk (a b c:List UInt8) (ha:a.length≤1048576) (hb:b.length≤1048576) (hc:c.length≤1048576) (H:GH):ecall T zdG [.sl 1 [.str (mkB a),.str (mkB b),.str (mkB c)] .exact] H=some (.bool (zaz a&&(zaz b&&zaz c)),H):=by
 have:=zpp [a,b,c] .exact (by simp) (by simp; omega) H
 simpa [znv,zbB] using this
theorem zIl (a b c d:List UInt8) (ha:a.length≤1048576) (hb:b.length≤1048576) (hc:c.length≤1048576) (hd:d.length≤1048576) (H:GH):ecall T zdG [.sl 1 [.str (mkB a),.str (mkB b),.str (mkB c),.str (mkB d)] .exact] H=some (.bool (zaz a&&(zaz b&&(zaz c&&zaz d))),H):=by
 have:=zpp [a,b,c,d] .exact (by simp) (by simp; omega) H
 simpa [znv,zbB] using this
theorem zIm (a:List UInt8) (ha:a.length≤1048576) (H:GH):ecall T zgm [.sl 1 [.str (mkB a)] .exact] H=some (.bool (decide (a=[])),H):=by
 have:=zkH [a] .exact (by simp) (by simp; omega) H
 simpa [znv,zbB] using this
theorem zIn (a b:List UInt8) (ha:a.length≤1048576) (hb:b.length≤1048576) (H:GH):ecall T zgm [.sl 1 [.str (mkB a),.str (mkB b)] .exact] H=some (.bool (decide (a=[]∧b=[])),H):=by
 have:=zkH [a,b] .exact (by simp) (by simp; omega) H
 simpa [znv,zbB] using this
theorem zIo (a b c:List UInt8) (ha:a.length≤1048576) (hb:b.length≤1048576) (hc:c.length≤1048576) (H:GH):ecall T zgm [.sl 1 [.str (mkB a),.str (mkB b),.str (mkB c)] .exact] H=some (.bool (decide (a=[]∧b=[]∧c=[])),H):=by
 have:=zkH [a,b,c] .exact (by simp) (by simp; omega) H
 simpa [znv,zbB] using this
theorem zqx (k:Int) (a b c d:List UInt8) (ha:a.length≤1048576) (hb:b.length≤1048576) (hc:c.length≤1048576) (hd:d.length≤1048576) (H:GH) :
 ecall T zpy [.agg [.int .i64 k,.str (mkB a),.str (mkB b),.str (mkB c),.str (mkB d)]] H=some (.bool (zby k a b c d),H):=by
 apply optW.eq
 rw [zae zEm rfl (by simp [zdw]),zab]
 by_cases h1:k=1
 ·have n1:=zIi a ha H
  have m1:=zIo b c d hb hc hd H
  cases hx:zaz a <;> rw [hx] at n1
  ·simp [zdw,zeT,h1,n1,zby,hx,zan]
  ·simp [zdw,zeT,h1,n1,m1,zby,hx,zan]
 ·by_cases h24:k=2∨k=4
  ·have n1:=zIj a d ha hd H
   have m1:=zIn b c hb hc H
   rcases h24 with h2 | h2
   ·cases hx:(zaz a&&zaz d) <;> rw [hx] at n1
    ·simp [zdw,zeT,h2,n1,zby,hx,zan]
    ·simp [zdw,zeT,h2,n1,m1,zby,hx,zan]
   ·cases hx:(zaz a&&zaz d) <;> rw [hx] at n1
    ·simp [zdw,zeT,h2,n1,zby,hx,zan]
    ·simp [zdw,zeT,h2,n1,m1,zby,hx,zan]
  ·have h2:¬ k=2:=fun h=>h24 (.inl h)
   have h4:¬ k=4:=fun h=>h24 (.inr h)
   by_cases h3:k=3
   ·have n1:=zIk a b c ha hb hc H
    have m1:=zIm d hd H
    rw [← Bool.and_assoc] at n1
    cases hx:(zaz a&&zaz b&&zaz c) <;> rw [hx] at n1
    ·simp [zdw,zeT,h3,n1,zby,hx,zan]
    ·simp [zdw,zeT,h3,n1,m1,zby,hx,zan]
   ·by_cases h5:k=5
    ·have n1:=zIl a b c d ha hb hc hd H
     simp [zdw,zeT,h5,n1,zby,zan,Bool.and_assoc]
    ·simp [zdw,zeT,h1,h2,h3,h4,h5,zby]
theorem zez (a:List UInt8) (ha:a.length≤2000000) (H:GH):ecall T zgj [.str (mkB a)] H=some (.bool (zaz a),H):=by
 have:=zda (mkB a) (by rw [zfo]; omega) H
 rwa [zbC] at this
theorem zxq (k:Int) (a b c d:List UInt8) (ha:a.length≤1048576) (hb:b.length≤1048576) (hc:c.length≤1048576) (hd:d.length≤1048576) (H:GH) :
 ecall T zx1 [.agg [.int .i64 k,.str (mkB a),.str (mkB b),.str (mkB c),.str (mkB d)]] H=some (.bool (zby k a b c d),H):=by
 have n1:=zez a (by omega) H
 have n2:=zez b (by omega) H
 have n3:=zez c (by omega) H
 have n4:=zez d (by omega) H
 have n0:=zez [] (by simp) H
 rw [zc0] at n0
 apply optW.eq
 rw [zae zHm rfl (by simp [zeQ]),zab]
 by_cases h1:k=1
 ·cases hx:zaz a <;> rw [hx] at n1
  ·simp [zeQ,zgp,h1,n1,n2,n3,n4,zby,hx]
  ·by_cases e2:b=[] <;> by_cases e3:c=[] <;> simp [zeQ,zgp,h1,n0,n1,n2,n3,n4,zby,hx,e2,e3]
 ·by_cases h24:k=2∨k=4
  ·rcases h24 with h2 | h2
   ·cases hx:zaz a <;> rw [hx] at n1
    ·simp [zeQ,zgp,h2,n1,n2,n3,n4,zby,hx]
    ·by_cases e2:b=[] <;> by_cases e3:c=[] <;> simp [zeQ,zgp,h2,n0,n1,n2,n3,n4,zby,hx,e2,e3]
   ·cases hx:zaz a <;> rw [hx] at n1
    ·simp [zeQ,zgp,h2,n1,n2,n3,n4,zby,hx]
    ·by_cases e2:b=[] <;> by_cases e3:c=[] <;> simp [zeQ,zgp,h2,n0,n1,n2,n3,n4,zby,hx,e2,e3]
  ·have h2:¬ k=2:=fun h=>h24 (.inl h)
   have h4:¬ k=4:=fun h=>h24 (.inr h)
   by_cases h3:k=3
   ·cases hx:zaz a <;> rw [hx] at n1
    ·simp [zeQ,zgp,h3,n1,n2,n3,n4,zby,hx]
    ·cases hy:zaz b <;> rw [hy] at n2
     ·simp [zeQ,zgp,h3,n1,n2,n3,n4,zby,hx,hy]
     ·cases hz:zaz c <;> rw [hz] at n3 <;> simp [zeQ,zgp,h3,n1,n2,n3,n4,zby,hx,hy,hz]
   ·by_cases h5:k=5
    ·cases hx:zaz a <;> rw [hx] at n1
     ·simp [zeQ,zgp,h5,n1,n2,n3,n4,zby,hx]
     ·cases hy:zaz b <;> rw [hy] at n2
      ·simp [zeQ,zgp,h5,n1,n2,n3,n4,zby,hx,hy]
      ·cases hz:zaz c <;> rw [hz] at n3 <;> simp [zeQ,zgp,h5,n1,n2,n3,n4,zby,hx,hy,hz]
    ·simp [zeQ,zgp,h1,h2,h3,h4,h5,n1,n2,n3,n4,zby]
abbrev zft (n:Int):GV:=.int .i64 n
def zg4 (r c:Int):Bool:=decide (0≤r∧r<16∧1≤c∧c≤1048576)
theorem zjW (r c:Int) (H:GH):ecall T zlX [.agg [.int .i64 r,.int .i64 c]] H=some (.bool (zg4 r c),H):=by
 apply optW.eq
 rw [zae zEc rfl (by simp [zin]),zab]
 by_cases h1:0≤r
 ·by_cases h2:r<16
  ·by_cases h3:1≤c <;> simp [zin,zpB,zg4,h1,h2,h3]
  ·simp [zin,zpB,zg4,h1,h2]
 ·simp [zin,zpB,zg4,h1]
def zqy (v:List Int):GV:=.agg (v.map fun n=>.int .i64 n)
def zdE (v:List Int) (r:Int):Int:=v.getD r.toNat 0
theorem zsU {r:Int} (h0:0≤r) (h1:r<16):gIx 16 (.int .i64 r)=some r.toNat:=by
 simp only [gIx]; rw [if_pos ⟨h0,by omega⟩]
theorem zpq {v:List Int} (hv:v.length=16) {r:Int} (h0:0≤r) (h1:r<16):(v.map fun n=>GV.int .i64 n)[r.toNat]?=some (.int .i64 (zdE v r)):=by
 have hlt:r.toNat<v.length:=by omega
 simp [zdE,hlt]
def zck (v:List Int) (r c:Int):Bool:=zg4 r c&&decide (c≤zdE v r)
def zlM (v:List Int) (r c:Int):Bool:=zg4 r c&&decide (zdE v r=c - 1)
theorem zlN (v:List Int) (hv:v.length=16) (r c:Int) (H:GH):ecall T zpt [zqy v,.agg [.int .i64 r,.int .i64 c]] H=some (.bool (zck v r c),H):=by
 apply optW.eq
 rw [zae zD2 rfl (by simp [zj1]),zab]
 have hd:=fun H=>zjW r c H
 unfold zck
 cases hb:zg4 r c with
 | false =>
  rw [hb] at hd
  simp [zj1,ztD,zqy,hd]
 | true =>
  rw [hb] at hd
  simp only [zg4,decide_eq_true_eq] at hb
  have hi:=zsU hb.1 hb.2.1
  have ha:=zpq hv hb.1 hb.2.1
  simp only [List.getElem?_map,Option.map_eq_some_iff] at ha
  obtain ⟨x,hx,he⟩:=ha
  injection he with _ he
  simp [zj1,ztD,zqy,hd,hi,hx,he]
theorem znG (v:List Int) (hv:v.length=16) (r c:Int) (H:GH):ecall T zpu [zqy v,.agg [.int .i64 r,.int .i64 c]] H=some (.bool (zlM v r c),H):=by
 apply optW.eq
 rw [zae zD9 rfl (by simp [zj4]),zab]
 have hd:=fun H=>zjW r c H
 unfold zlM
 cases hb:zg4 r c with
 | false =>
  rw [hb] at hd
  simp [zj4,ztZ,zqy,hd]
 | true =>
  rw [hb] at hd
  simp only [zg4,decide_eq_true_eq] at hb
  have hi:=zsU hb.1 hb.2.1
  have ha:=zpq hv hb.1 hb.2.1
  have hw:IntKind.i64.wrap (c - 1)=c - 1:=zar (by omega) (by omega)
  simp only [List.getElem?_map,Option.map_eq_some_iff] at ha
  obtain ⟨x,hx,he⟩:=ha
  injection he with _ he
  simp [zj4,ztZ,zqy,hd,hi,hx,he,hw]
def zz0 (v:List Int):Bool:=v.all fun n=>decide (0≤n∧n≤1048576)
theorem zlO (v:List Int) (hv:v.length=16) (H:GH):ecall T zpv [zqy v] H=some (.bool (zz0 v),H):=by
 apply optW.eq
 rw [zae zEa rfl (by simp [zl7]),zab]
 simp only [zl7,zz7,zqy]
 have hl:(v.map fun n=>GV.int .i64 n).length=16:=by simp [hv]
 simp [hl,hv]
 rw [zav,zap]
 refine ze6 (T:=T) (n:=16) (A:=Unit) (fun _ _=>[(5,zqy v)]) (fun i _ _ H'=>H'=H∧(v.take i).all (fun n=>decide (0≤n∧n≤1048576))=true) (c:=7) (b:=0) (I:=6) (d:=15) rfl (by omega) (by decide) rfl (by simp) ?_ ?_ 0 () _ _ H (by omega) ⟨rfl,by simp⟩ (by simp [zqy]; exact List.take_of_length_le (by simp [hv])) (.refl _ _ _) (by simp)
 ·intro i a l g H' hi ⟨hH,hall⟩ hh hf hI
  subst hH
  simp only [zaE,zaL,and_true,zqy] at hh
  have hlt:i<v.length:=by omega
  have hix:gIx 16 (.int .i64 (i:Int))=some i:=by simp only [gIx]; rw [if_pos (by omega)]; simp
  have hg:v[i]?=some v[i]:=List.getElem?_eq_getElem hlt
  have htake:v.take (i+1)=v.take i++[v[i]]:=by rw [List.take_add_one,hg]; rfl
  generalize v[i]=n at hg htake
  by_cases h0:n<0
  ·have hb:zz0 v=false:=by
    rw [Bool.eq_false_iff]; intro h
    have:=List.all_eq_true.1 h n (List.mem_of_getElem? hg)
    simp at this; omega
   simp [hh,hI,hix,hg,h0,hb]
  ·by_cases h1:1048576<n
   ·have hb:zz0 v=false:=by
     rw [Bool.eq_false_iff]; intro h
     have:=List.all_eq_true.1 h n (List.mem_of_getElem? hg)
     simp at this; omega
    simp [hh,hI,hix,hg,h0,h1,hb]
   ·have hall':(v.take (i+1)).all (fun n=>decide (0≤n∧n≤1048576))=true:=by
     rw [htake,List.all_append,hall]; simp; omega
    simp [hh,hI,hix,hg,h0,h1]
    exact fun _=>⟨by simpa using hall',rfl⟩
 ·intro a l g H' ⟨hH,hall⟩ hh hf
  subst hH
  have hb:zz0 v=true:=by rw [← hv,List.take_length] at hall; exact hall
  simp [hb]
theorem isNaN_int (a:Int) (H:GH):ecall T f_x3 [.int .i64 a] H=some (.bool false,H):=by
 apply optW.eq
 rw [zae T_x3 rfl (by simp [F_x3]),zab]
 simp [F_x3,b_x3]
theorem isNaN_str (a:ByteArray) (H:GH):ecall T f_x4 [.str a] H=some (.bool false,H):=by
 apply optW.eq
 rw [zae T_x4 rfl (by simp [F_x4]),zab]
 simp [F_x4,b_x4]
theorem cmp_int (a b:Int) (H:GH):ecall T f_x0 [.int .i64 a,.int .i64 b] H=some (.int .i64 (zem a b),H):=by
 apply optW.eq
 rw [zae T_x0 rfl (by simp [F_x0]),zab]
 by_cases h:a<b
 ·simp [F_x0,b_x0,isNaN_int,zem,h]
 ·by_cases h':b<a <;> simp [F_x0,b_x0,isNaN_int,zem,h,h']
theorem cmp_str (a b:ByteArray) (H:GH):ecall T f_x1 [.str a,.str b] H=some (.int .i64 (zCO a b),H):=by
 apply optW.eq
 rw [zae T_x1 rfl (by simp [F_x1]),zab]
 unfold zCO
 cases h:Op.bytesLess a.toList b.toList
 ·by_cases h':a.toList=b.toList
  ·have h2:=h
   rw [h'] at h2
   simp [F_x1,b_x1,isNaN_str,h2,h',znx]
  ·have h3:(a.toList == b.toList)=false:=beq_eq_false_iff_ne.2 h'
   simp [F_x1,b_x1,isNaN_str,h,h',h3,znx]
 ·simp [F_x1,b_x1,isNaN_str,h,znx]
theorem cmp_lex (a b:List UInt8) (H:GH):ecall T f_x1 [.str (mkB a),.str (mkB b)] H=some (.int .i64 (zcM a b),H):=by
 have:=cmp_str (mkB a) (mkB b) H
 rwa [zqe,zbC,zbC] at this
theorem cmp_or2 (x y:Int) (H:GH):ecall T f_x2 [.sl 1 [.int .i64 x,.int .i64 y] .exact] H=some (.int .i64 (orL [x,y]),H):=by
 apply optW.eq
 rw [zae T_x2 rfl (by simp [F_x2]),zab]
 have w1:IntKind.i64.wrap 1=1:=by decide
 have w2:IntKind.i64.wrap 2=2:=by decide
 by_cases hx:x=0
 ·by_cases hy:y=0 <;> simp [F_x2,b_x2,hx,hy,zao,L0_x2,gIx,w1,w2,orL]
 ·simp [F_x2,b_x2,hx,zao,L0_x2,gIx,w1,w2,orL]
theorem cmp_or5 (x y z u v:Int) (H:GH):ecall T f_x2 [.sl 1 [.int .i64 x,.int .i64 y,.int .i64 z,.int .i64 u,.int .i64 v] .exact] H=some (.int .i64 (orL [x,y,z,u,v]),H):=by
 apply optW.eq
 rw [zae T_x2 rfl (by simp [F_x2]),zab]
 have w1:IntKind.i64.wrap 1=1:=by decide
 have w2:IntKind.i64.wrap 2=2:=by decide
 have w3:IntKind.i64.wrap 3=3:=by decide
 have w4:IntKind.i64.wrap 4=4:=by decide
 have w5:IntKind.i64.wrap 5=5:=by decide
 by_cases hx:x=0
 ·by_cases hy:y=0
  ·by_cases hz:z=0
   ·by_cases hu:u=0
    ·by_cases hv:v=0 <;> simp [F_x2,b_x2,hx,hy,hz,hu,hv,zao,L0_x2,gIx,w1,w2,w3,w4,w5,orL]
    ·simp [F_x2,b_x2,hx,hy,hz,hu,zao,L0_x2,gIx,w1,w2,w3,w4,w5,orL]
   ·simp [F_x2,b_x2,hx,hy,hz,zao,L0_x2,gIx,w1,w2,w3,w4,w5,orL]
  ·simp [F_x2,b_x2,hx,hy,zao,L0_x2,gIx,w1,w2,w3,w4,w5,orL]
 ·simp [F_x2,b_x2,hx,zao,L0_x2,gIx,w1,w2,w3,w4,w5,orL]
theorem store_Order (x y:El) (H:GH):ecall T f_x95 [.agg (elC x),.agg (elC y)] H=some (.int .i64 (zdU x y),H):=by
 apply optW.eq
 rw [zae T_x95 rfl (by simp [F_x95]),zab]
 simp [F_x95,b_x95,elC,cmp_int,cmp_lex,zan,cmp_or5,zdU]
theorem zif (x y:Ent) (H:GH):ecall T zs3 [.agg (zde x),.agg (zde y)] H=some (.int .i64 (zdV x y),H):=by
 apply optW.eq
 rw [zae zD3 rfl (by simp [zl0]),zab]
 simp [zl0,zz4,zde,cmp_int,zan,cmp_or2,zdV]
set_option maxHeartbeats 4000000
end Go.Proofs.YtchjbidfmhmmhaaGreatDoor
