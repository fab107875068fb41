/- Own work: the zaO machine and what it shows, part El. -/
import Derived.Test.YtchjbidfmhmmhaaGreatDoorVa
import Derived.Test.YtchjbidfmhmmhaaGreatDoorShF
import Derived.Test.YtchjbidfmhmmhaaGreatDoorVp
import Derived.Test.YtchjbidfmhmmhaaGreatDoorLib
import Derived.Test.YtchjbidfmhmmhaaGreatDoorShH
set_option linter.all false
namespace Go.Proofs.YtchjbidfmhmmhaaGreatDoor
open Go.Sh
set_option maxRecDepth 100000
theorem zac {sz:Nat} {s:GV} {xs:List GV} (h:Elems sz s xs) (t:Nat):zbJ t s=s:=by cases h <;> rfl
def zaJ (l:List UInt8):GV:=.str (mkB l)
def znl (L:List (List UInt8)) (t:Tag):GV:=.sl 1 (L.map zaJ) t
theorem zlJ:∀ L:List (List UInt8),ziy (L.map zaJ)=some (L.map mkB)
 | []=>rfl
 | l::L=>by simp [ziy,zaJ,zlJ L]
theorem zkD (v:GV) (L:List (List UInt8)) (hv:Elems 1 v (L.map zaJ)) (sep:List UInt8) (h1:L.length≤1048576) (h2:(Lib.join L sep).length≤100000000) (H:GH):ecall T zkF [v,.str (mkB sep)] H=some (.str (mkB (Lib.join L sep)),H):=by
 rw [zdn zFt (by decide) (by simp [zxl])]
 generalize hxs:L.map zaJ=xs at hv
 cases hv with
 | nil =>
  have:L=[]:=by simpa using hxs
  subst this
  rfl
 | sl xs t =>
  subst hxs
  have e:(L.map mkB).map (fun s:ByteArray=>s.data.toList)=L:=by simp [List.map_map,Function.comp_def]
  simp only [zjh,zn6,zAc,zxl,zlJ,Option.bind_some,zbn,List.length_map]
  have hc:L.length≤140737488355328∧(Lib.join L sep).length≤140737488355328:=⟨by omega,by omega⟩
  rw [e,if_pos hc]
  rfl
theorem znt (a:List UInt8) (ha:a.length≤2000000) (H:GH):ecall T zqc [.str (mkB a)] H=some (.bool (zaF a),H):=by
 have:=zdR (mkB a) (by rw [zee]; omega) H
 rwa [zbn] at this
theorem zwN (all:List (List UInt8)) (t:Tag) (hall:all.length≤1000) (hsz:∀ w∈all,w.length≤2000000) (xs:List (List UInt8)):∀ (j:Nat) (_:all.drop j=xs) (l:List GV) (g:Nat) (H:GH) (K:GExit × St→Prop)
 (_:zad l 5=znl all t) (_:zad l 6=.int .i64 all.length) (_:zad l 7=.int .i64 j)
 (_:∀ (l':List GV),xs.all zaF=true→K (.exit 0,⟨⟨l',g⟩,H⟩))
 (_:∀ (l':List GV),zad l' 2=.bool false→xs.all zaF=false→K (.ret,⟨⟨l',g⟩,H⟩)),
 optW (erun T (.loop zgd) ⟨⟨l,g⟩,H⟩) K:=by
 induction xs with
 | nil =>
  intro j hd l g H K h5 h6 h7 he hr
  have hle:all.length≤j:=by simpa using hd
  have hge:¬ ((j:Int)<all.length):=by omega
  have hge':¬ (j<all.length):=by omega
  rw [zam]
  simp [zgd,h6,h7,hge,hge']
  exact he _ rfl
 | cons x xs ih =>
  intro j hd l g H K h5 h6 h7 he hr
  have hj:j<all.length:=by
   rcases Nat.lt_or_ge j all.length with h1 | h1
   ·exact h1
   ·rw [List.drop_eq_nil_of_le h1] at hd; cases hd
  have hgv:all[j]?=some x:=by
   have:=congrArg (·[0]?) hd
   simpa using this
  have hd':all.drop (j+1)=xs:=by
   have:=congrArg List.tail hd
   simpa using this
  have hgd:∀ h:j<all.length,all[j]'h=x:=fun h=>by rw [List.getElem?_eq_getElem h] at hgv; exact Option.some.inj hgv
  have hlt:(j:Int)<all.length:=by omega
  have hix:gIx all.length (.int .i64 (j:Int))=some j:=by simp only [gIx]; rw [if_pos (by omega)]; simp
  have hw:IntKind.i64.wrap ((j:Int)+1)=(j:Int)+1:=zan (by omega) (by omega)
  have hn:=znt x (hsz x (List.mem_of_getElem? hgv)) H
  simp only [znl] at h5
  cases hx:zaF x <;> rw [hx] at hn
  ·rw [zam,zao]
   simp [zgd,h5,h6,h7,hlt,hj,hix,hgv,hgd,zaJ,hn]
   exact hr _ (by simp) (by simp [hx])
  ·rw [zam,zao]
   simp [zgd,h5,h6,h7,hlt,hj,hix,hgv,hgd,zaJ,hn,hw]
   refine ih (j+1) hd' _ _ H K ?_ ?_ ?_ ?_ ?_
   ·simp [h5,znl]
   ·simp [h6]
   ·simp
   ·intro l' e; exact he l' (by simpa [hx] using e)
   ·intro l' e2 e; exact hr l' e2 (by simpa [hx] using e)
theorem zo3 (L:List (List UInt8)) (t:Tag) (hL:L.length≤1000) (hsz:∀ w∈L,w.length≤2000000) (H:GH):ecall T zgY [znl L t] H=some (.bool (L.all zaF),H):=by
 apply optW.eq
 rw [zag zCX rfl (by simp [zju]),zab]
 simp only [zju,zql,znl]
 simp
 rw [zao,zai]
 refine zwN L t hL hsz L 0 rfl _ _ _ _ ?_ ?_ ?_ ?_ ?_
 ·simp [znl]
 ·simp
 ·simp
 ·intro l' e
  simp
  simpa using e
 ·intro l' e2 e
  simp [e2]
  simpa using e
theorem zzI:∀ (L:List (List UInt8)),Lib.join L []=L.flatten
 | []=>rfl
 | [x]=>by simp [Lib.join_one]
 | x::y::L=>by
  have:=zzI (y::L)
  simp only [Lib.join,List.intercalate,List.intersperse,List.flatten_cons,List.nil_append] at this ⊢
  rw [this]
theorem zkE (L:List (List UInt8)) (t:Tag) (h1:L.length≤1000) (h2:L.flatten.length≤100000000) (H:GH):ecall T zkG [znl L t] H=some (.bool (decide (L.flatten=[])),H):=by
 have hj:=zkD (znl L t) L (.sl _ _) [] (by omega) (by rw [zzI]; exact h2) H
 rw [zzI] at hj
 have e:mkB []=⟨#[]⟩:=rfl
 rw [e] at hj
 apply optW.eq
 rw [zag zF3 rfl (by simp [ztT]),zab]
 simp only [znl] at hj ⊢
 simp [ztT,zCI,hj]
theorem zGL (a:List UInt8) (ha:a.length≤1048576) (H:GH):ecall T zgY [.sl 1 [.str (mkB a)] .exact] H=some (.bool (zaF a),H):=by
 have:=zo3 [a] .exact (by simp) (by simp; omega) H
 simpa [znl,zaJ] using this
theorem zGM (a b:List UInt8) (ha:a.length≤1048576) (hb:b.length≤1048576) (H:GH):ecall T zgY [.sl 1 [.str (mkB a),.str (mkB b)] .exact] H=some (.bool (zaF a&&zaF b),H):=by
 have:=zo3 [a,b] .exact (by simp) (by simp; omega) H
 simpa [znl,zaJ] using this
theorem zGN (a b c:List UInt8) (ha:a.length≤1048576) (hb:b.length≤1048576) (hc:c.length≤1048576) (H:GH):ecall T zgY [.sl 1 [.str (mkB a),.str (mkB b),.str (mkB c)] .exact] H=some (.bool (zaF a&&(zaF b&&zaF c)),H):=by
 have:=zo3 [a,b,c] .exact (by simp) (by simp; omega) H
 simpa [znl,zaJ] using this
theorem zGO (a b c d:List UInt8) (ha:a.length≤1048576) (hb:b.length≤1048576) (hc:c.length≤1048576) (hd:d.length≤1048576) (H:GH):ecall T zgY [.sl 1 [.str (mkB a),.str (mkB b),.str (mkB c),.str (mkB d)] .exact] H=some (.bool (zaF a&&(zaF b&&(zaF c&&zaF d))),H):=by
 have:=zo3 [a,b,c,d] .exact (by simp) (by simp; omega) H
 simpa [znl,zaJ] using this
theorem zGP (a:List UInt8) (ha:a.length≤1048576) (H:GH):ecall T zkG [.sl 1 [.str (mkB a)] .exact] H=some (.bool (decide (a=[])),H):=by
 have:=zkE [a] .exact (by simp) (by simp; omega) H
 simpa [znl,zaJ] using this
theorem zGQ (a b:List UInt8) (ha:a.length≤1048576) (hb:b.length≤1048576) (H:GH):ecall T zkG [.sl 1 [.str (mkB a),.str (mkB b)] .exact] H=some (.bool (decide (a=[]∧b=[])),H):=by
 have:=zkE [a,b] .exact (by simp) (by simp; omega) H
 simpa [znl,zaJ] using this
theorem zGR (a b c:List UInt8) (ha:a.length≤1048576) (hb:b.length≤1048576) (hc:c.length≤1048576) (H:GH):ecall T zkG [.sl 1 [.str (mkB a),.str (mkB b),.str (mkB c)] .exact] H=some (.bool (decide (a=[]∧b=[]∧c=[])),H):=by
 have:=zkE [a,b,c] .exact (by simp) (by simp; omega) H
 simpa [znl,zaJ] using this
theorem zpW (k:Int) (a b c d:List UInt8) (ha:a.length≤1048576) (hb:b.length≤1048576) (hc:c.length≤1048576) (hd:d.length≤1048576) (H:GH) :
 ecall T zxg [.agg [.int .i64 k,.str (mkB a),.str (mkB b),.str (mkB c),.str (mkB d)]] H=some (.bool (zbu k a b c d),H):=by
 apply optW.eq
 rw [zag zFZ rfl (by simp [zge]),zab]
 by_cases h1:k=1
 ·have n1:=zGL a ha H
  have m1:=zGR b c d hb hc hd H
  cases hx:zaF a <;> rw [hx] at n1
  ·simp [zge,zig,h1,n1,zbu,hx,zak]
  ·simp [zge,zig,h1,n1,m1,zbu,hx,zak]
 ·by_cases h24:k=2∨k=4
  ·have n1:=zGM a d ha hd H
   have m1:=zGQ b c hb hc H
   rcases h24 with h2 | h2
   ·cases hx:(zaF a&&zaF d) <;> rw [hx] at n1
    ·simp [zge,zig,h2,n1,zbu,hx,zak]
    ·simp [zge,zig,h2,n1,m1,zbu,hx,zak]
   ·cases hx:(zaF a&&zaF d) <;> rw [hx] at n1
    ·simp [zge,zig,h2,n1,zbu,hx,zak]
    ·simp [zge,zig,h2,n1,m1,zbu,hx,zak]
  ·have h2:¬ k=2:=fun h=>h24 (.inl h)
   have h4:¬ k=4:=fun h=>h24 (.inr h)
   by_cases h3:k=3
   ·have n1:=zGN a b c ha hb hc H
    have m1:=zGP d hd H
    rw [← Bool.and_assoc] at n1
    cases hx:(zaF a&&zaF b&&zaF c) <;> rw [hx] at n1
    ·simp [zge,zig,h3,n1,zbu,hx,zak]
    ·simp [zge,zig,h3,n1,m1,zbu,hx,zak]
   ·by_cases h5:k=5
    ·have n1:=zGO a b c d ha hb hc hd H
     simp [zge,zig,h5,n1,zbu,zak,Bool.and_assoc]
    ·simp [zge,zig,h1,h2,h3,h4,h5,zbu]
theorem zGS {a b:List UInt8} (h:a.length+b.length≤100000000):zcM .add (mkB a) (mkB b)=some (.str (mkB (a++b))):=by
 have e:mkB a++mkB b=mkB (a++b):=ba_ext (by simp)
 simp only [zcM]; rw [if_pos (by simp [maxLen]; omega),e]
theorem zew (a:List UInt8) (ha:a.length≤2000000) (H:GH):ecall T zhI [.str (mkB a)] H=some (.bool (zaF a),H):=by
 have:=zgO (mkB a) (by rw [zee]; omega) H
 rwa [zbn] at this
theorem zwO (k:Int) (a b c d:List UInt8) (ha:a.length≤1048576) (hb:b.length≤1048576) (hc:c.length≤1048576) (hd:d.length≤1048576) (H:GH) :
 ecall T zxb [.agg [.int .i64 k,.str (mkB a),.str (mkB b),.str (mkB c),.str (mkB d)]] H=some (.bool (zbu k a b c d),H):=by
 have n1:=zew a (by omega) H
 have n2:=zew b (by omega) H
 have n3:=zew c (by omega) H
 have n4:=zew d (by omega) H
 have n0:=zew [] (by simp) H
 rw [zdN] at n0
 apply optW.eq
 rw [zag zFQ rfl (by simp [zeL]),zab]
 by_cases h1:k=1
 ·cases hx:zaF a <;> rw [hx] at n1
  ·simp [zeL,zgc,h1,n1,n2,n3,n4,zbu,hx]
  ·by_cases e2:b=[] <;> by_cases e3:c=[] <;> simp [zeL,zgc,h1,n0,n1,n2,n3,n4,zbu,hx,e2,e3]
 ·by_cases h24:k=2∨k=4
  ·rcases h24 with h2 | h2
   ·cases hx:zaF a <;> rw [hx] at n1
    ·simp [zeL,zgc,h2,n1,n2,n3,n4,zbu,hx]
    ·by_cases e2:b=[] <;> by_cases e3:c=[] <;> simp [zeL,zgc,h2,n0,n1,n2,n3,n4,zbu,hx,e2,e3]
   ·cases hx:zaF a <;> rw [hx] at n1
    ·simp [zeL,zgc,h2,n1,n2,n3,n4,zbu,hx]
    ·by_cases e2:b=[] <;> by_cases e3:c=[] <;> simp [zeL,zgc,h2,n0,n1,n2,n3,n4,zbu,hx,e2,e3]
  ·have h2:¬ k=2:=fun h=>h24 (.inl h)
   have h4:¬ k=4:=fun h=>h24 (.inr h)
   by_cases h3:k=3
   ·cases hx:zaF a <;> rw [hx] at n1
    ·simp [zeL,zgc,h3,n1,n2,n3,n4,zbu,hx]
    ·cases hy:zaF b <;> rw [hy] at n2
     ·simp [zeL,zgc,h3,n1,n2,n3,n4,zbu,hx,hy]
     ·cases hz:zaF c <;> rw [hz] at n3 <;> simp [zeL,zgc,h3,n1,n2,n3,n4,zbu,hx,hy,hz]
   ·by_cases h5:k=5
    ·cases hx:zaF a <;> rw [hx] at n1
     ·simp [zeL,zgc,h5,n1,n2,n3,n4,zbu,hx]
     ·cases hy:zaF b <;> rw [hy] at n2
      ·simp [zeL,zgc,h5,n1,n2,n3,n4,zbu,hx,hy]
      ·cases hz:zaF c <;> rw [hz] at n3 <;> simp [zeL,zgc,h5,n1,n2,n3,n4,zbu,hx,hy,hz]
    ·simp [zeL,zgc,h1,h2,h3,h4,h5,n1,n2,n3,n4,zbu]
abbrev zjg (n:Int):GV:=.int .i64 n
def zgP (r c:Int):Bool:=decide (0≤r∧r<16∧1≤c∧c≤1048576)
theorem zjP (r c:Int) (H:GH):ecall T zlT [.agg [.int .i64 r,.int .i64 c]] H=some (.bool (zgP r c),H):=by
 apply optW.eq
 rw [zag zCS rfl (by simp [zid]),zab]
 by_cases h1:0≤r
 ·by_cases h2:r<16
  ·by_cases h3:1≤c <;> simp [zid,zpb,zgP,h1,h2,h3]
  ·simp [zid,zpb,zgP,h1,h2]
 ·simp [zid,zpb,zgP,h1]
def zpX (v:List Int):GV:=.agg (v.map fun n=>.int .i64 n)
def zdx (v:List Int) (r:Int):Int:=v.getD r.toNat 0
theorem zsi {r:Int} (h0:0≤r) (h1:r<16):gIx 16 (.int .i64 r)=some r.toNat:=by
 simp only [gIx]; rw [if_pos ⟨h0,by omega⟩]
theorem zo4 {v:List Int} (hv:v.length=16) {r:Int} (h0:0≤r) (h1:r<16):(v.map fun n=>GV.int .i64 n)[r.toNat]?=some (.int .i64 (zdx v r)):=by
 have hlt:r.toNat<v.length:=by omega
 simp [zdx,hlt]
def zcl (v:List Int) (r c:Int):Bool:=zgP r c&&decide (c≤zdx v r)
def zlK (v:List Int) (r c:Int):Bool:=zgP r c&&decide (zdx v r=c - 1)
theorem zlL (v:List Int) (hv:v.length=16) (r c:Int) (H:GH):ecall T zo7 [zpX v,.agg [.int .i64 r,.int .i64 c]] H=some (.bool (zcl v r c),H):=by
 apply optW.eq
 rw [zag zCL rfl (by simp [zjU]),zab]
 have hd:=fun H=>zjP r c H
 unfold zcl
 cases hb:zgP r c with
 | false =>
  rw [hb] at hd
  simp [zjU,ztm,zpX,hd]
 | true =>
  rw [hb] at hd
  simp only [zgP,decide_eq_true_eq] at hb
  have hi:=zsi hb.1 hb.2.1
  have ha:=zo4 hv hb.1 hb.2.1
  simp only [List.getElem?_map,Option.map_eq_some_iff] at ha
  obtain ⟨x,hx,he⟩:=ha
  injection he with _ he
  simp [zjU,ztm,zpX,hd,hi,hx,he]
theorem znu (v:List Int) (hv:v.length=16) (r c:Int) (H:GH):ecall T zo8 [zpX v,.agg [.int .i64 r,.int .i64 c]] H=some (.bool (zlK v r c),H):=by
 apply optW.eq
 rw [zag zCP rfl (by simp [zjX]),zab]
 have hd:=fun H=>zjP r c H
 unfold zlK
 cases hb:zgP r c with
 | false =>
  rw [hb] at hd
  simp [zjX,ztC,zpX,hd]
 | true =>
  rw [hb] at hd
  simp only [zgP,decide_eq_true_eq] at hb
  have hi:=zsi hb.1 hb.2.1
  have ha:=zo4 hv hb.1 hb.2.1
  have hw:IntKind.i64.wrap (c - 1)=c - 1:=zan (by omega) (by omega)
  simp only [List.getElem?_map,Option.map_eq_some_iff] at ha
  obtain ⟨x,hx,he⟩:=ha
  injection he with _ he
  simp [zjX,ztC,zpX,hd,hi,hx,he,hw]
def zza (v:List Int):Bool:=v.all fun n=>decide (0≤n∧n≤1048576)
theorem zlM (v:List Int) (hv:v.length=16) (H:GH):ecall T zo9 [zpX v] H=some (.bool (zza v),H):=by
 apply optW.eq
 rw [zag zCQ rfl (by simp [zl0]),zab]
 simp only [zl0,zzg,zpX]
 have hl:(v.map fun n=>GV.int .i64 n).length=16:=by simp [hv]
 simp [hl,hv]
 rw [zao,zai]
 refine ze0 (T:=T) (n:=16) (A:=Unit) (fun _ _=>[(5,zpX v)]) (fun i _ _ H'=>H'=H∧(v.take i).all (fun n=>decide (0≤n∧n≤1048576))=true) (c:=7) (b:=0) (I:=6) (d:=15) rfl (by omega) (by decide) rfl (by simp) ?_ ?_ 0 () _ _ H (by omega) ⟨rfl,by simp⟩ (by simp [zpX]; exact List.take_of_length_le (by simp [hv])) (.refl _ _ _) (by simp)
 ·intro i a l g H' hi ⟨hH,hall⟩ hh hf hI
  subst hH
  simp only [zah,zaj,and_true,zpX] at hh
  have hlt:i<v.length:=by omega
  have hix:gIx 16 (.int .i64 (i:Int))=some i:=by simp only [gIx]; rw [if_pos (by omega)]; simp
  have hg:v[i]?=some v[i]:=List.getElem?_eq_getElem hlt
  have htake:v.take (i+1)=v.take i++[v[i]]:=by rw [List.take_add_one,hg]; rfl
  generalize v[i]=n at hg htake
  by_cases h0:n<0
  ·have hb:zza v=false:=by
    rw [Bool.eq_false_iff]; intro h
    have:=List.all_eq_true.1 h n (List.mem_of_getElem? hg)
    simp at this; omega
   simp [hh,hI,hix,hg,h0,hb]
  ·by_cases h1:1048576<n
   ·have hb:zza v=false:=by
     rw [Bool.eq_false_iff]; intro h
     have:=List.all_eq_true.1 h n (List.mem_of_getElem? hg)
     simp at this; omega
    simp [hh,hI,hix,hg,h0,h1,hb]
   ·have hall':(v.take (i+1)).all (fun n=>decide (0≤n∧n≤1048576))=true:=by
     rw [htake,List.all_append,hall]; simp; omega
    simp [hh,hI,hix,hg,h0,h1]
    exact fun _=>⟨by simpa using hall',rfl⟩
 ·intro a l g H' ⟨hH,hall⟩ hh hf
  subst hH
  have hb:zza v=true:=by rw [← hv,List.take_length] at hall; exact hall
  simp [hb]
theorem isNaN_int (a:Int) (H:GH):ecall T f_x3 [.int .i64 a] H=some (.bool false,H):=by
 apply optW.eq
 rw [zag T_x3 rfl (by simp [F_x3]),zab]
 simp [F_x3,b_x3]
theorem isNaN_str (a:ByteArray) (H:GH):ecall T f_x4 [.str a] H=some (.bool false,H):=by
 apply optW.eq
 rw [zag T_x4 rfl (by simp [F_x4]),zab]
 simp [F_x4,b_x4]
theorem cmp_int (a b:Int) (H:GH):ecall T f_x0 [.int .i64 a,.int .i64 b] H=some (.int .i64 (zdt a b),H):=by
 apply optW.eq
 rw [zag T_x0 rfl (by simp [F_x0]),zab]
 by_cases h:a<b
 ·simp [F_x0,b_x0,isNaN_int,zdt,h]
 ·by_cases h':b<a <;> simp [F_x0,b_x0,isNaN_int,zdt,h,h']
theorem cmp_str (a b:ByteArray) (H:GH):ecall T f_x1 [.str a,.str b] H=some (.int .i64 (zBG a b),H):=by
 apply optW.eq
 rw [zag T_x1 rfl (by simp [F_x1]),zab]
 unfold zBG
 cases h:Op.bytesLess a.toList b.toList
 ·by_cases h':a.toList=b.toList
  ·have h2:=h
   rw [h'] at h2
   simp [F_x1,b_x1,isNaN_str,h2,h',zcM]
  ·have h3:(a.toList == b.toList)=false:=beq_eq_false_iff_ne.2 h'
   simp [F_x1,b_x1,isNaN_str,h,h',h3,zcM]
 ·simp [F_x1,b_x1,isNaN_str,h,zcM]
theorem cmp_lex (a b:List UInt8) (H:GH):ecall T f_x1 [.str (mkB a),.str (mkB b)] H=some (.int .i64 (zch a b),H):=by
 have:=cmp_str (mkB a) (mkB b) H
 rwa [zpJ,zbn,zbn] at this
theorem cmp_or2 (x y:Int) (H:GH):ecall T f_x2 [.sl 1 [.int .i64 x,.int .i64 y] .exact] H=some (.int .i64 (orL [x,y]),H):=by
 apply optW.eq
 rw [zag T_x2 rfl (by simp [F_x2]),zab]
 have w1:IntKind.i64.wrap 1=1:=by decide
 have w2:IntKind.i64.wrap 2=2:=by decide
 by_cases hx:x=0
 ·by_cases hy:y=0 <;> simp [F_x2,b_x2,hx,hy,zam,L0_x2,gIx,w1,w2,orL]
 ·simp [F_x2,b_x2,hx,zam,L0_x2,gIx,w1,w2,orL]
theorem cmp_or5 (x y z u v:Int) (H:GH):ecall T f_x2 [.sl 1 [.int .i64 x,.int .i64 y,.int .i64 z,.int .i64 u,.int .i64 v] .exact] H=some (.int .i64 (orL [x,y,z,u,v]),H):=by
 apply optW.eq
 rw [zag T_x2 rfl (by simp [F_x2]),zab]
 have w1:IntKind.i64.wrap 1=1:=by decide
 have w2:IntKind.i64.wrap 2=2:=by decide
 have w3:IntKind.i64.wrap 3=3:=by decide
 have w4:IntKind.i64.wrap 4=4:=by decide
 have w5:IntKind.i64.wrap 5=5:=by decide
 by_cases hx:x=0
 ·by_cases hy:y=0
  ·by_cases hz:z=0
   ·by_cases hu:u=0
    ·by_cases hv:v=0 <;> simp [F_x2,b_x2,hx,hy,hz,hu,hv,zam,L0_x2,gIx,w1,w2,w3,w4,w5,orL]
    ·simp [F_x2,b_x2,hx,hy,hz,hu,zam,L0_x2,gIx,w1,w2,w3,w4,w5,orL]
   ·simp [F_x2,b_x2,hx,hy,hz,zam,L0_x2,gIx,w1,w2,w3,w4,w5,orL]
  ·simp [F_x2,b_x2,hx,hy,zam,L0_x2,gIx,w1,w2,w3,w4,w5,orL]
 ·simp [F_x2,b_x2,hx,zam,L0_x2,gIx,w1,w2,w3,w4,w5,orL]
theorem store_Order (x y:El) (H:GH):ecall T f_x71 [.agg (elC x),.agg (elC y)] H=some (.int .i64 (zdO x y),H):=by
 apply optW.eq
 rw [zag T_x71 rfl (by simp [F_x71]),zab]
 simp [F_x71,b_x71,elC,cmp_int,cmp_lex,zak,cmp_or5,zdO]
theorem zh8 (x y:Ent) (H:GH):ecall T zzJ [.agg (zdg x),.agg (zdg y)] H=some (.int .i64 (zdT x y),H):=by
 apply optW.eq
 rw [zag zFn rfl (by simp [zto]),zab]
 simp [zto,zCi,zdg,cmp_int,zak,cmp_or2,zdT]
theorem zdV (a b:List UInt8):zcM .lss (mkB a) (mkB b)=some (.bool (decide (zch a b<0))):=by
 unfold zcM
 congr 2
 rw [ByteArray.toList_eq,ByteArray.toList_eq,zbn,zbn,← zly]
 cases h:Op.bytesLess a b
 ·by_cases h2:a=b <;> simp [h2]
 ·simp
set_option maxHeartbeats 4000000
theorem zwP (x y:El) (H:GH):ecall T zw9 [.agg (elC x),.agg (elC y)] H=some (.bool (zoP x y),H):=by
 apply optW.eq
 rw [zag zFO rfl (by simp [zjs]),zab]
 unfold zoP zdO
 by_cases h1:x.k=y.k
 ·have e1:=(zbY _ _).2 h1
  by_cases h2:x.a=y.a
  ·have e2:=(za1 _ _).2 h2
   by_cases h3:x.b=y.b
   ·have e3:=(za1 _ _).2 h3
    by_cases h4:x.c=y.c
    ·have e4:=(za1 _ _).2 h4
     have e6:zdt y.k y.k=0:=(zbY _ _).2 rfl
     by_cases h5:x.d=y.d
     ·simp [zjs,znP,elC,h1,h2,h3,h4,h5,zdV,orL,zcO,e6]
     ·have e5:zch x.d y.d≠0:=fun h=>h5 ((za1 _ _).1 h)
      simp [zjs,znP,elC,h1,h2,h3,h4,zdV,orL,zcO,e5,e6]
    ·have e4:zch x.c y.c≠0:=fun h=>h4 ((za1 _ _).1 h)
     have e6:zdt y.k y.k=0:=(zbY _ _).2 rfl
     simp [zjs,znP,elC,h1,h2,h3,h4,zdV,orL,zcO,e4,e6]
   ·have e3:zch x.b y.b≠0:=fun h=>h3 ((za1 _ _).1 h)
    have e6:zdt y.k y.k=0:=(zbY _ _).2 rfl
    simp [zjs,znP,elC,h1,h2,h3,zdV,orL,zcO,e3,e6]
  ·have e2:zch x.a y.a≠0:=fun h=>h2 ((za1 _ _).1 h)
   have e6:zdt y.k y.k=0:=(zbY _ _).2 rfl
   simp [zjs,znP,elC,h1,h2,zdV,orL,e2,e6]
 ·have e1:zdt x.k y.k≠0:=fun h=>h1 ((zbY _ _).1 h)
  simp [zjs,znP,elC,h1,orL,e1,zyS]
end Go.Proofs.YtchjbidfmhmmhaaGreatDoor
