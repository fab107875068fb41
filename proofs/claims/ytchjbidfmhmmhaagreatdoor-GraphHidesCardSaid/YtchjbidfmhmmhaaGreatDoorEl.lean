/- Own work: the zaG machine and what it shows, part El. -/
import Derived.Test.YtchjbidfmhmmhaaGreatDoorVa
import Derived.Test.YtchjbidfmhmmhaaGreatDoorShF
import Derived.Test.YtchjbidfmhmmhaaGreatDoorVp
import Derived.Test.YtchjbidfmhmmhaaGreatDoorLib
import Derived.Test.YtchjbidfmhmmhaaGreatDoorShH
set_option linter.all false
namespace Go.Proofs.YtchjbidfmhmmhaaGreatDoor
open Go.Sh
set_option maxRecDepth 100000
theorem zaf {sz:Nat} {s:GV} {xs:List GV} (h:Elems sz s xs) (t:Nat):zbx t s=s:=by cases h <;> rfl
def za2 (l:List UInt8):GV:=.str (mkB l)
def zl2 (L:List (List UInt8)) (t:Tag):GV:=.sl 1 (L.map za2) t
theorem zkE:∀ L:List (List UInt8),zhN (L.map za2)=some (L.map mkB)
 | []=>rfl
 | l::L=>by simp [zhN,za2,zkE L]
theorem zjG (v:GV) (L:List (List UInt8)) (hv:Elems 1 v (L.map za2)) (sep:List UInt8) (h1:L.length≤1048576) (h2:(Lib.join L sep).length≤100000000) (H:GH):ecall T zjJ [v,.str (mkB sep)] H=some (.str (mkB (Lib.join L sep)),H):=by
 rw [zc4 zCS (by decide) (by simp [zvf])]
 generalize hxs:L.map za2=xs at hv
 cases hv with
 | nil =>
  have:L=[]:=by simpa using hxs
  subst this
  rfl
 | sl xs t =>
  subst hxs
  have e:(L.map mkB).map (fun s:ByteArray=>s.data.toList)=L:=by simp [List.map_map,Function.comp_def]
  simp only [ziz,zmI,zxY,zvf,zkE,Option.bind_some,zbE,List.length_map]
  have hc:L.length≤140737488355328∧(Lib.join L sep).length≤140737488355328:=⟨by omega,by omega⟩
  rw [e,if_pos hc]
  rfl
theorem zl8 (a:List UInt8) (ha:a.length≤2000000) (H:GH):ecall T zoJ [.str (mkB a)] H=some (.bool (zaC a),H):=by
 have:=zdt (mkB a) (by rw [zho]; omega) H
 rwa [zbE] at this
theorem zuF (all:List (List UInt8)) (t:Tag) (hall:all.length≤1000) (hsz:∀ w∈all,w.length≤2000000) (xs:List (List UInt8)):∀ (j:Nat) (_:all.drop j=xs) (l:List GV) (g:Nat) (H:GH) (K:GExit × St→Prop)
 (_:zag l 5=zl2 all t) (_:zag l 6=.int .i64 all.length) (_:zag l 7=.int .i64 j)
 (_:∀ (l':List GV),xs.all zaC=true→K (.exit 0,⟨⟨l',g⟩,H⟩))
 (_:∀ (l':List GV),zag l' 2=.bool false→xs.all zaC=false→K (.ret,⟨⟨l',g⟩,H⟩)),
 optW (erun T (.loop zfy) ⟨⟨l,g⟩,H⟩) K:=by
 induction xs with
 | nil =>
  intro j hd l g H K h5 h6 h7 he hr
  have hle:all.length≤j:=by simpa using hd
  have hge:¬ ((j:Int)<all.length):=by omega
  have hge':¬ (j<all.length):=by omega
  rw [zal]
  simp [zfy,h6,h7,hge,hge']
  exact he _ rfl
 | cons x xs ih =>
  intro j hd l g H K h5 h6 h7 he hr
  have hj:j<all.length:=by
   rcases Nat.lt_or_ge j all.length with h1 | h1
   ·exact h1
   ·rw [List.drop_eq_nil_of_le h1] at hd; cases hd
  have hgv:all[j]?=some x:=by
   have:=congrArg (·[0]?) hd
   simpa using this
  have hd':all.drop (j+1)=xs:=by
   have:=congrArg List.tail hd
   simpa using this
  have hgd:∀ h:j<all.length,all[j]'h=x:=fun h=>by rw [List.getElem?_eq_getElem h] at hgv; exact Option.some.inj hgv
  have hlt:(j:Int)<all.length:=by omega
  have hix:gIx all.length (.int .i64 (j:Int))=some j:=by simp only [gIx]; rw [if_pos (by omega)]; simp
  have hw:IntKind.i64.wrap ((j:Int)+1)=(j:Int)+1:=zam (by omega) (by omega)
  have hn:=zl8 x (hsz x (List.mem_of_getElem? hgv)) H
  simp only [zl2] at h5
  cases hx:zaC x <;> rw [hx] at hn
  ·rw [zal,zay]
   simp [zfy,h5,h6,h7,hlt,hj,hix,hgv,hgd,za2,hn]
   exact hr _ (by simp) (by simp [hx])
  ·rw [zal,zay]
   simp [zfy,h5,h6,h7,hlt,hj,hix,hgv,hgd,za2,hn,hw]
   refine ih (j+1) hd' _ _ H K ?_ ?_ ?_ ?_ ?_
   ·simp [h5,zl2]
   ·simp [h6]
   ·simp
   ·intro l' e; exact he l' (by simpa [hx] using e)
   ·intro l' e2 e; exact hr l' e2 (by simpa [hx] using e)
theorem znG (L:List (List UInt8)) (t:Tag) (hL:L.length≤1000) (hsz:∀ w∈L,w.length≤2000000) (H:GH):ecall T zge [zl2 L t] H=some (.bool (L.all zaC),H):=by
 apply optW.eq
 rw [zad zAt rfl (by simp [ziL]),zab]
 simp only [ziL,zoU,zl2]
 simp
 rw [zay,zar]
 refine zuF L t hL hsz L 0 rfl _ _ _ _ ?_ ?_ ?_ ?_ ?_
 ·simp [zl2]
 ·simp
 ·simp
 ·intro l' e
  simp
  simpa using e
 ·intro l' e2 e
  simp [e2]
  simpa using e
theorem zxs:∀ (L:List (List UInt8)),Lib.join L []=L.flatten
 | []=>rfl
 | [x]=>by simp [Lib.join_one]
 | x::y::L=>by
  have:=zxs (y::L)
  simp only [Lib.join,List.intercalate,List.intersperse,List.flatten_cons,List.nil_append] at this ⊢
  rw [this]
theorem zjH (L:List (List UInt8)) (t:Tag) (h1:L.length≤1000) (h2:L.flatten.length≤100000000) (H:GH):ecall T zjK [zl2 L t] H=some (.bool (decide (L.flatten=[])),H):=by
 have hj:=zjG (zl2 L t) L (.sl _ _) [] (by omega) (by rw [zxs]; exact h2) H
 rw [zxs] at hj
 have e:mkB []=⟨#[]⟩:=rfl
 rw [e] at hj
 apply optW.eq
 rw [zad zDj rfl (by simp [zrQ]),zab]
 simp only [zl2] at hj ⊢
 simp [zrQ,zAi,hj]
theorem zD5 (a:List UInt8) (ha:a.length≤1048576) (H:GH):ecall T zge [.sl 1 [.str (mkB a)] .exact] H=some (.bool (zaC a),H):=by
 have:=znG [a] .exact (by simp) (by simp; omega) H
 simpa [zl2,za2] using this
theorem zD6 (a b:List UInt8) (ha:a.length≤1048576) (hb:b.length≤1048576) (H:GH):ecall T zge [.sl 1 [.str (mkB a),.str (mkB b)] .exact] H=some (.bool (zaC a&&zaC b),H):=by
 have:=znG [a,b] .exact (by simp) (by simp; omega) H
 simpa [zl2,za2] using this
theorem zD7 (a b c:List UInt8) (ha:a.length≤1048576) (hb:b.length≤1048576) (hc:c.length≤1048576) (H:GH):ecall T zge [.sl 1 [.str (mkB a),.str (mkB b),.str (mkB c)] .exact] H=some (.bool (zaC a&&(zaC b&&zaC c)),H):=by
 have:=znG [a,b,c] .exact (by simp) (by simp; omega) H
 simpa [zl2,za2] using this
theorem zD8 (a b c d:List UInt8) (ha:a.length≤1048576) (hb:b.length≤1048576) (hc:c.length≤1048576) (hd:d.length≤1048576) (H:GH):ecall T zge [.sl 1 [.str (mkB a),.str (mkB b),.str (mkB c),.str (mkB d)] .exact] H=some (.bool (zaC a&&(zaC b&&(zaC c&&zaC d))),H):=by
 have:=znG [a,b,c,d] .exact (by simp) (by simp; omega) H
 simpa [zl2,za2] using this
theorem zD9 (a:List UInt8) (ha:a.length≤1048576) (H:GH):ecall T zjK [.sl 1 [.str (mkB a)] .exact] H=some (.bool (decide (a=[])),H):=by
 have:=zjH [a] .exact (by simp) (by simp; omega) H
 simpa [zl2,za2] using this
theorem zEa (a b:List UInt8) (ha:a.length≤1048576) (hb:b.length≤1048576) (H:GH):ecall T zjK [.sl 1 [.str (mkB a),.str (mkB b)] .exact] H=some (.bool (decide (a=[]∧b=[])),H):=by
 have:=zjH [a,b] .exact (by simp) (by simp; omega) H
 simpa [zl2,za2] using this
theorem zEb (a b c:List UInt8) (ha:a.length≤1048576) (hb:b.length≤1048576) (hc:c.length≤1048576) (H:GH):ecall T zjK [.sl 1 [.str (mkB a),.str (mkB b),.str (mkB c)] .exact] H=some (.bool (decide (a=[]∧b=[]∧c=[])),H):=by
 have:=zjH [a,b,c] .exact (by simp) (by simp; omega) H
 simpa [zl2,za2] using this
theorem zoz (k:Int) (a b c d:List UInt8) (ha:a.length≤1048576) (hb:b.length≤1048576) (hc:c.length≤1048576) (hd:d.length≤1048576) (H:GH) :
 ecall T zvb [.agg [.int .i64 k,.str (mkB a),.str (mkB b),.str (mkB c),.str (mkB d)]] H=some (.bool (zbl k a b c d),H):=by
 apply optW.eq
 rw [zad zDf rfl (by simp [zfz]),zab]
 by_cases h1:k=1
 ·have n1:=zD5 a ha H
  have m1:=zEb b c d hb hc hd H
  cases hx:zaC a <;> rw [hx] at n1
  ·simp [zfz,zhy,h1,n1,zbl,hx,zaj]
  ·simp [zfz,zhy,h1,n1,m1,zbl,hx,zaj]
 ·by_cases h24:k=2∨k=4
  ·have n1:=zD6 a d ha hd H
   have m1:=zEa b c hb hc H
   rcases h24 with h2 | h2
   ·cases hx:(zaC a&&zaC d) <;> rw [hx] at n1
    ·simp [zfz,zhy,h2,n1,zbl,hx,zaj]
    ·simp [zfz,zhy,h2,n1,m1,zbl,hx,zaj]
   ·cases hx:(zaC a&&zaC d) <;> rw [hx] at n1
    ·simp [zfz,zhy,h2,n1,zbl,hx,zaj]
    ·simp [zfz,zhy,h2,n1,m1,zbl,hx,zaj]
  ·have h2:¬ k=2:=fun h=>h24 (.inl h)
   have h4:¬ k=4:=fun h=>h24 (.inr h)
   by_cases h3:k=3
   ·have n1:=zD7 a b c ha hb hc H
    have m1:=zD9 d hd H
    rw [← Bool.and_assoc] at n1
    cases hx:(zaC a&&zaC b&&zaC c) <;> rw [hx] at n1
    ·simp [zfz,zhy,h3,n1,zbl,hx,zaj]
    ·simp [zfz,zhy,h3,n1,m1,zbl,hx,zaj]
   ·by_cases h5:k=5
    ·have n1:=zD8 a b c d ha hb hc hd H
     simp [zfz,zhy,h5,n1,zbl,zaj,Bool.and_assoc]
    ·simp [zfz,zhy,h1,h2,h3,h4,h5,zbl]
theorem zd4 (a:List UInt8) (ha:a.length≤2000000) (H:GH):ecall T zgY [.str (mkB a)] H=some (.bool (zaC a),H):=by
 have:=zf7 (mkB a) (by rw [zho]; omega) H
 rwa [zbE] at this
theorem zuG (k:Int) (a b c d:List UInt8) (ha:a.length≤1048576) (hb:b.length≤1048576) (hc:c.length≤1048576) (hd:d.length≤1048576) (H:GH) :
 ecall T zu6 [.agg [.int .i64 k,.str (mkB a),.str (mkB b),.str (mkB c),.str (mkB d)]] H=some (.bool (zbl k a b c d),H):=by
 have n1:=zd4 a (by omega) H
 have n2:=zd4 b (by omega) H
 have n3:=zd4 c (by omega) H
 have n4:=zd4 d (by omega) H
 have n0:=zd4 [] (by simp) H
 rw [zf5] at n0
 apply optW.eq
 rw [zad zC7 rfl (by simp [zed]),zab]
 by_cases h1:k=1
 ·cases hx:zaC a <;> rw [hx] at n1
  ·simp [zed,zfx,h1,n1,n2,n3,n4,zbl,hx]
  ·by_cases e2:b=[] <;> by_cases e3:c=[] <;> simp [zed,zfx,h1,n0,n1,n2,n3,n4,zbl,hx,e2,e3]
 ·by_cases h24:k=2∨k=4
  ·rcases h24 with h2 | h2
   ·cases hx:zaC a <;> rw [hx] at n1
    ·simp [zed,zfx,h2,n1,n2,n3,n4,zbl,hx]
    ·by_cases e2:b=[] <;> by_cases e3:c=[] <;> simp [zed,zfx,h2,n0,n1,n2,n3,n4,zbl,hx,e2,e3]
   ·cases hx:zaC a <;> rw [hx] at n1
    ·simp [zed,zfx,h2,n1,n2,n3,n4,zbl,hx]
    ·by_cases e2:b=[] <;> by_cases e3:c=[] <;> simp [zed,zfx,h2,n0,n1,n2,n3,n4,zbl,hx,e2,e3]
  ·have h2:¬ k=2:=fun h=>h24 (.inl h)
   have h4:¬ k=4:=fun h=>h24 (.inr h)
   by_cases h3:k=3
   ·cases hx:zaC a <;> rw [hx] at n1
    ·simp [zed,zfx,h3,n1,n2,n3,n4,zbl,hx]
    ·cases hy:zaC b <;> rw [hy] at n2
     ·simp [zed,zfx,h3,n1,n2,n3,n4,zbl,hx,hy]
     ·cases hz:zaC c <;> rw [hz] at n3 <;> simp [zed,zfx,h3,n1,n2,n3,n4,zbl,hx,hy,hz]
   ·by_cases h5:k=5
    ·cases hx:zaC a <;> rw [hx] at n1
     ·simp [zed,zfx,h5,n1,n2,n3,n4,zbl,hx]
     ·cases hy:zaC b <;> rw [hy] at n2
      ·simp [zed,zfx,h5,n1,n2,n3,n4,zbl,hx,hy]
      ·cases hz:zaC c <;> rw [hz] at n3 <;> simp [zed,zfx,h5,n1,n2,n3,n4,zbl,hx,hy,hz]
    ·simp [zed,zfx,h1,h2,h3,h4,h5,n1,n2,n3,n4,zbl]
abbrev zkx (n:Int):GV:=.int .i64 n
def zeW (r c:Int):Bool:=decide (0≤r∧r<16∧1≤c∧c≤1048576)
theorem zi1 (r c:Int) (H:GH):ecall T zqZ [.agg [.int .i64 r,.int .i64 c]] H=some (.bool (zeW r c),H):=by
 apply optW.eq
 rw [zad zCY rfl (by simp [zmp]),zab]
 by_cases h1:0≤r
 ·by_cases h2:r<16
  ·by_cases h3:1≤c <;> simp [zmp,zvg,zeW,h1,h2,h3]
  ·simp [zmp,zvg,zeW,h1,h2]
 ·simp [zmp,zvg,zeW,h1]
def zoA (v:List Int):GV:=.agg (v.map fun n=>.int .i64 n)
def zcu (v:List Int) (r:Int):Int:=v.getD r.toNat 0
theorem zuH {r:Int} (h0:0≤r) (h1:r<16):gIx 16 (.int .i64 r)=some r.toNat:=by
 simp only [gIx]; rw [if_pos ⟨h0,by omega⟩]
theorem znH {v:List Int} (hv:v.length=16) {r:Int} (h0:0≤r) (h1:r<16):(v.map fun n=>GV.int .i64 n)[r.toNat]?=some (.int .i64 (zcu v r)):=by
 have hlt:r.toNat<v.length:=by omega
 simp [zcu,hlt]
def zbO (v:List Int) (r c:Int):Bool:=zeW r c&&decide (c≤zcu v r)
def ziA (v:List Int) (r c:Int):Bool:=zeW r c&&decide (zcu v r=c - 1)
theorem zkF (v:List Int) (hv:v.length=16) (r c:Int) (H:GH):ecall T zuW [zoA v,.agg [.int .i64 r,.int .i64 c]] H=some (.bool (zbO v r c),H):=by
 apply optW.eq
 rw [zad zCK rfl (by simp [zoO]),zab]
 have hd:=fun H=>zi1 r c H
 unfold zbO
 cases hb:zeW r c with
 | false =>
  rw [hb] at hd
  simp [zoO,zxC,zoA,hd]
 | true =>
  rw [hb] at hd
  simp only [zeW,decide_eq_true_eq] at hb
  have hi:=zuH hb.1 hb.2.1
  have ha:=znH hv hb.1 hb.2.1
  simp only [List.getElem?_map,Option.map_eq_some_iff] at ha
  obtain ⟨x,hx,he⟩:=ha
  injection he with _ he
  simp [zoO,zxC,zoA,hd,hi,hx,he]
theorem zl9 (v:List Int) (hv:v.length=16) (r c:Int) (H:GH):ecall T zu1 [zoA v,.agg [.int .i64 r,.int .i64 c]] H=some (.bool (ziA v r c),H):=by
 apply optW.eq
 rw [zad zCW rfl (by simp [zoQ]),zab]
 have hd:=fun H=>zi1 r c H
 unfold ziA
 cases hb:zeW r c with
 | false =>
  rw [hb] at hd
  simp [zoQ,zxG,zoA,hd]
 | true =>
  rw [hb] at hd
  simp only [zeW,decide_eq_true_eq] at hb
  have hi:=zuH hb.1 hb.2.1
  have ha:=znH hv hb.1 hb.2.1
  have hw:IntKind.i64.wrap (c - 1)=c - 1:=zam (by omega) (by omega)
  simp only [List.getElem?_map,Option.map_eq_some_iff] at ha
  obtain ⟨x,hx,he⟩:=ha
  injection he with _ he
  simp [zoQ,zxG,zoA,hd,hi,hx,he,hw]
def zqL (v:List Int):Bool:=v.all fun n=>decide (0≤n∧n≤1048576)
theorem zkG (v:List Int) (hv:v.length=16) (H:GH):ecall T zu2 [zoA v] H=some (.bool (zqL v),H):=by
 apply optW.eq
 rw [zad zCX rfl (by simp [zrB]),zab]
 simp only [zrB,zz5,zoA]
 have hl:(v.map fun n=>GV.int .i64 n).length=16:=by simp [hv]
 simp [hl,hv]
 rw [zay,zar]
 refine zeq (T:=T) (n:=16) (A:=Unit) (fun _ _=>[(5,zoA v)]) (fun i _ _ H'=>H'=H∧(v.take i).all (fun n=>decide (0≤n∧n≤1048576))=true) (c:=7) (b:=0) (I:=6) (d:=15) rfl (by omega) (by decide) rfl (by simp) ?_ ?_ 0 () _ _ H (by omega) ⟨rfl,by simp⟩ (by simp [zoA]; exact List.take_of_length_le (by simp [hv])) (.refl _ _ _) (by simp)
 ·intro i a l g H' hi ⟨hH,hall⟩ hh hf hI
  subst hH
  simp only [zaB,zaM,and_true,zoA] at hh
  have hlt:i<v.length:=by omega
  have hix:gIx 16 (.int .i64 (i:Int))=some i:=by simp only [gIx]; rw [if_pos (by omega)]; simp
  have hg:v[i]?=some v[i]:=List.getElem?_eq_getElem hlt
  have htake:v.take (i+1)=v.take i++[v[i]]:=by rw [List.take_add_one,hg]; rfl
  generalize v[i]=n at hg htake
  by_cases h0:n<0
  ·have hb:zqL v=false:=by
    rw [Bool.eq_false_iff]; intro h
    have:=List.all_eq_true.1 h n (List.mem_of_getElem? hg)
    simp at this; omega
   simp [hh,hI,hix,hg,h0,hb]
  ·by_cases h1:1048576<n
   ·have hb:zqL v=false:=by
     rw [Bool.eq_false_iff]; intro h
     have:=List.all_eq_true.1 h n (List.mem_of_getElem? hg)
     simp at this; omega
    simp [hh,hI,hix,hg,h0,h1,hb]
   ·have hall':(v.take (i+1)).all (fun n=>decide (0≤n∧n≤1048576))=true:=by
     rw [htake,List.all_append,hall]; simp; omega
    simp [hh,hI,hix,hg,h0,h1]
    exact fun _=>⟨by simpa using hall',rfl⟩
 ·intro a l g H' ⟨hH,hall⟩ hh hf
  subst hH
  have hb:zqL v=true:=by rw [← hv,List.take_length] at hall; exact hall
  simp [hb]
theorem isNaN_int (a:Int) (H:GH):ecall T f_x3 [.int .i64 a] H=some (.bool false,H):=by
 apply optW.eq
 rw [zad T_x3 rfl (by simp [F_x3]),zab]
 simp [F_x3,b_x3]
theorem isNaN_str (a:ByteArray) (H:GH):ecall T f_x4 [.str a] H=some (.bool false,H):=by
 apply optW.eq
 rw [zad T_x4 rfl (by simp [F_x4]),zab]
 simp [F_x4,b_x4]
theorem cmp_int (a b:Int) (H:GH):ecall T f_x0 [.int .i64 a,.int .i64 b] H=some (.int .i64 (zin a b),H):=by
 apply optW.eq
 rw [zad T_x0 rfl (by simp [F_x0]),zab]
 by_cases h:a<b
 ·simp [F_x0,b_x0,isNaN_int,zin,h]
 ·by_cases h':b<a <;> simp [F_x0,b_x0,isNaN_int,zin,h,h']
theorem cmp_str (a b:ByteArray) (H:GH):ecall T f_x1 [.str a,.str b] H=some (.int .i64 (zzr a b),H):=by
 apply optW.eq
 rw [zad T_x1 rfl (by simp [F_x1]),zab]
 unfold zzr
 cases h:Op.bytesLess a.toList b.toList
 ·by_cases h':a.toList=b.toList
  ·have h2:=h
   rw [h'] at h2
   simp [F_x1,b_x1,isNaN_str,h2,h',zg7]
  ·have h3:(a.toList == b.toList)=false:=beq_eq_false_iff_ne.2 h'
   simp [F_x1,b_x1,isNaN_str,h,h',h3,zg7]
 ·simp [F_x1,b_x1,isNaN_str,h,zg7]
theorem cmp_lex (a b:List UInt8) (H:GH):ecall T f_x1 [.str (mkB a),.str (mkB b)] H=some (.int .i64 (zc5 a b),H):=by
 have:=cmp_str (mkB a) (mkB b) H
 rwa [zon,zbE,zbE] at this
theorem cmp_or2 (x y:Int) (H:GH):ecall T f_x2 [.sl 1 [.int .i64 x,.int .i64 y] .exact] H=some (.int .i64 (orL [x,y]),H):=by
 apply optW.eq
 rw [zad T_x2 rfl (by simp [F_x2]),zab]
 have w1:IntKind.i64.wrap 1=1:=by decide
 have w2:IntKind.i64.wrap 2=2:=by decide
 by_cases hx:x=0
 ·by_cases hy:y=0 <;> simp [F_x2,b_x2,hx,hy,zal,L0_x2,gIx,w1,w2,orL]
 ·simp [F_x2,b_x2,hx,zal,L0_x2,gIx,w1,w2,orL]
theorem cmp_or5 (x y z u v:Int) (H:GH):ecall T f_x2 [.sl 1 [.int .i64 x,.int .i64 y,.int .i64 z,.int .i64 u,.int .i64 v] .exact] H=some (.int .i64 (orL [x,y,z,u,v]),H):=by
 apply optW.eq
 rw [zad T_x2 rfl (by simp [F_x2]),zab]
 have w1:IntKind.i64.wrap 1=1:=by decide
 have w2:IntKind.i64.wrap 2=2:=by decide
 have w3:IntKind.i64.wrap 3=3:=by decide
 have w4:IntKind.i64.wrap 4=4:=by decide
 have w5:IntKind.i64.wrap 5=5:=by decide
 by_cases hx:x=0
 ·by_cases hy:y=0
  ·by_cases hz:z=0
   ·by_cases hu:u=0
    ·by_cases hv:v=0 <;> simp [F_x2,b_x2,hx,hy,hz,hu,hv,zal,L0_x2,gIx,w1,w2,w3,w4,w5,orL]
    ·simp [F_x2,b_x2,hx,hy,hz,hu,zal,L0_x2,gIx,w1,w2,w3,w4,w5,orL]
   ·simp [F_x2,b_x2,hx,hy,hz,zal,L0_x2,gIx,w1,w2,w3,w4,w5,orL]
  ·simp [F_x2,b_x2,hx,hy,zal,L0_x2,gIx,w1,w2,w3,w4,w5,orL]
 ·simp [F_x2,b_x2,hx,zal,L0_x2,gIx,w1,w2,w3,w4,w5,orL]
theorem store_Order (x y:El) (H:GH):ecall T f_x52 [.agg (elC x),.agg (elC y)] H=some (.int .i64 (zdu x y),H):=by
 apply optW.eq
 rw [zad T_x52 rfl (by simp [F_x52]),zab]
 simp [F_x52,b_x52,elC,cmp_int,cmp_lex,zaj,cmp_or5,zdu]
theorem zhr (x y:Ent) (H:GH):ecall T zxu [.agg (zcY x),.agg (zcY y)] H=some (.int .i64 (zdv x y),H):=by
 apply optW.eq
 rw [zad zCM rfl (by simp [zrw]),zab]
 simp [zrw,zzX,zcY,cmp_int,zaj,cmp_or2,zdv]
set_option maxHeartbeats 4000000
end Go.Proofs.YtchjbidfmhmmhaaGreatDoor
