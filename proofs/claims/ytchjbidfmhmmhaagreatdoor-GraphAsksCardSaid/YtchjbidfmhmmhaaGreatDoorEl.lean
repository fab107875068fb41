/- Own work: the zaN machine and what it shows, part El. -/
import Derived.Test.YtchjbidfmhmmhaaGreatDoorVa
import Derived.Test.YtchjbidfmhmmhaaGreatDoorShF
import Derived.Test.YtchjbidfmhmmhaaGreatDoorVp
import Derived.Test.YtchjbidfmhmmhaaGreatDoorLib
import Derived.Test.YtchjbidfmhmmhaaGreatDoorShH
set_option linter.all false
namespace Go.Proofs.YtchjbidfmhmmhaaGreatDoor
open Go.Sh
set_option maxRecDepth 100000
theorem zah {sz:Nat} {s:GV} {xs:List GV} (h:Elems sz s xs) (t:Nat):zbC t s=s:=by cases h <;> rfl
def zbs (l:List UInt8):GV:=.str (mkB l)
def zlX (L:List (List UInt8)) (t:Tag):GV:=.sl 1 (L.map zbs) t
theorem zky:∀ L:List (List UInt8),zhP (L.map zbs)=some (L.map mkB)
  | []=>rfl
  | l::L=>by simp [zhP,zbs,zky L]
theorem zxh (v:GV) (L:List (List UInt8)) (hv:Elems 1 v (L.map zbs)) (sep:List UInt8) (h1:L.length≤1048576) (h2:(Lib.join L sep).length≤100000000) (H:GH):ecall T zoA [v,.str (mkB sep)] H=some (.str (mkB (Lib.join L sep)),H):=by
  rw [zf9 zDc (by decide) (by simp [zvc])]
  generalize hxs:L.map zbs=xs at hv
  cases hv with
  | nil =>
    have:L=[]:=by simpa using hxs
    subst this
    rfl
  | sl xs t =>
    subst hxs
    have e:(L.map mkB).map (fun s:ByteArray=>s.data.toList)=L:=by simp [List.map_map,Function.comp_def]
    simp only [zlY,zuh,zxR,zvc,zky,Option.bind_some,zbn,List.length_map]
    have hc:L.length≤140737488355328∧(Lib.join L sep).length≤140737488355328:=⟨by omega,by omega⟩
    rw [e,if_pos hc]
    rfl
theorem zl5 (a:List UInt8) (ha:a.length≤2000000) (H:GH):ecall T zoH [.str (mkB a)] H=some (.bool (zaB a),H):=by
  have:=zdq (mkB a) (by rw [zgc]; omega) H
  rwa [zbn] at this
theorem zuA (all:List (List UInt8)) (t:Tag) (hall:all.length≤1000) (hsz:∀ w∈all,w.length≤2000000) (xs:List (List UInt8)):∀ (j:Nat) (_:all.drop j=xs) (l:List GV) (g:Nat) (H:GH) (K:GExit × St→Prop)
    (_:zae l 5=zlX all t) (_:zae l 6=.int .i64 all.length) (_:zae l 7=.int .i64 j)
    (_:∀ (l':List GV),xs.all zaB=true→K (.exit 0,⟨⟨l',g⟩,H⟩))
    (_:∀ (l':List GV),zae l' 2=.bool false→xs.all zaB=false→K (.ret,⟨⟨l',g⟩,H⟩)),
    optW (erun T (.loop zfA) ⟨⟨l,g⟩,H⟩) K:=by
  induction xs with
  | nil =>
    intro j hd l g H K h5 h6 h7 he hr
    have hle:all.length≤j:=by simpa using hd
    have hge:¬ ((j:Int)<all.length):=by omega
    have hge':¬ (j<all.length):=by omega
    rw [zak]
    simp [zfA,h6,h7,hge,hge']
    exact he _ rfl
  | cons x xs ih =>
    intro j hd l g H K h5 h6 h7 he hr
    have hj:j<all.length:=by
      rcases Nat.lt_or_ge j all.length with h1 | h1
      · exact h1
      · rw [List.drop_eq_nil_of_le h1] at hd; cases hd
    have hgv:all[j]?=some x:=by
      have:=congrArg (·[0]?) hd
      simpa using this
    have hd':all.drop (j+1)=xs:=by
      have:=congrArg List.tail hd
      simpa using this
    have hgd:∀ h:j<all.length,all[j]'h=x:=fun h=>by rw [List.getElem?_eq_getElem h] at hgv; exact Option.some.inj hgv
    have hlt:(j:Int)<all.length:=by omega
    have hix:gIx all.length (.int .i64 (j:Int))=some j:=by simp only [gIx]; rw [if_pos (by omega)]; simp
    have hw:IntKind.i64.wrap ((j:Int)+1)=(j:Int)+1:=zaq (by omega) (by omega)
    have hn:=zl5 x (hsz x (List.mem_of_getElem? hgv)) H
    simp only [zlX] at h5
    cases hx:zaB x <;> rw [hx] at hn
    · rw [zak,zat]
      simp [zfA,h5,h6,h7,hlt,hj,hix,hgv,hgd,zbs,hn]
      exact hr _ (by simp) (by simp [hx])
    · rw [zak,zat]
      simp [zfA,h5,h6,h7,hlt,hj,hix,hgv,hgd,zbs,hn,hw]
      refine ih (j+1) hd' _ _ H K ?_ ?_ ?_ ?_ ?_
      · simp [h5,zlX]
      · simp [h6]
      · simp
      · intro l' e; exact he l' (by simpa [hx] using e)
      · intro l' e2 e; exact hr l' e2 (by simpa [hx] using e)
theorem znE (L:List (List UInt8)) (t:Tag) (hL:L.length≤1000) (hsz:∀ w∈L,w.length≤2000000) (H:GH):ecall T zgn [zlX L t] H=some (.bool (L.all zaB),H):=by
  apply optW.eq
  rw [zad zAz rfl (by simp [ziJ]),zab]
  simp only [ziJ,zoS,zlX]
  simp
  rw [zat,zal]
  refine zuA L t hL hsz L 0 rfl _ _ _ _ ?_ ?_ ?_ ?_ ?_
  · simp [zlX]
  · simp
  · simp
  · intro l' e
    simp
    simpa using e
  · intro l' e2 e
    simp [e2]
    simpa using e
theorem zxi:∀ (L:List (List UInt8)),Lib.join L []=L.flatten
  | []=>rfl
  | [x]=>by simp [Lib.join_one]
  | x::y::L=>by
    have:=zxi (y::L)
    simp only [Lib.join,List.intercalate,List.intersperse,List.flatten_cons,List.nil_append] at this ⊢
    rw [this]
theorem zjA (L:List (List UInt8)) (t:Tag) (h1:L.length≤1000) (h2:L.flatten.length≤100000000) (H:GH):ecall T zjB [zlX L t] H=some (.bool (decide (L.flatten=[])),H):=by
  have hj:=zxh (zlX L t) L (.sl _ _) [] (by omega) (by rw [zxi]; exact h2) H
  rw [zxi] at hj
  have e:mkB []=⟨#[]⟩:=rfl
  rw [e] at hj
  apply optW.eq
  rw [zad zDC rfl (by simp [zrR]),zab]
  simp only [zlX] at hj ⊢
  simp [zrR,zAo,hj]
theorem zEj (a:List UInt8) (ha:a.length≤1048576) (H:GH):ecall T zgn [.sl 1 [.str (mkB a)] .exact] H=some (.bool (zaB a),H):=by
  have:=znE [a] .exact (by simp) (by simp; omega) H
  simpa [zlX,zbs] using this
theorem zEk (a b:List UInt8) (ha:a.length≤1048576) (hb:b.length≤1048576) (H:GH):ecall T zgn [.sl 1 [.str (mkB a),.str (mkB b)] .exact] H=some (.bool (zaB a&&zaB b),H):=by
  have:=znE [a,b] .exact (by simp) (by simp; omega) H
  simpa [zlX,zbs] using this
theorem zEl (a b c:List UInt8) (ha:a.length≤1048576) (hb:b.length≤1048576) (hc:c.length≤1048576) (H:GH):ecall T zgn [.sl 1 [.str (mkB a),.str (mkB b),.str (mkB c)] .exact] H=some (.bool (zaB a&&(zaB b&&zaB c)),H):=by
  have:=znE [a,b,c] .exact (by simp) (by simp; omega) H
  simpa [zlX,zbs] using this
theorem zEm (a b c d:List UInt8) (ha:a.length≤1048576) (hb:b.length≤1048576) (hc:c.length≤1048576) (hd:d.length≤1048576) (H:GH):ecall T zgn [.sl 1 [.str (mkB a),.str (mkB b),.str (mkB c),.str (mkB d)] .exact] H=some (.bool (zaB a&&(zaB b&&(zaB c&&zaB d))),H):=by
  have:=znE [a,b,c,d] .exact (by simp) (by simp; omega) H
  simpa [zlX,zbs] using this
theorem zEn (a:List UInt8) (ha:a.length≤1048576) (H:GH):ecall T zjB [.sl 1 [.str (mkB a)] .exact] H=some (.bool (decide (a=[])),H):=by
  have:=zjA [a] .exact (by simp) (by simp; omega) H
  simpa [zlX,zbs] using this
theorem zEo (a b:List UInt8) (ha:a.length≤1048576) (hb:b.length≤1048576) (H:GH):ecall T zjB [.sl 1 [.str (mkB a),.str (mkB b)] .exact] H=some (.bool (decide (a=[]∧b=[])),H):=by
  have:=zjA [a,b] .exact (by simp) (by simp; omega) H
  simpa [zlX,zbs] using this
theorem zEp (a b c:List UInt8) (ha:a.length≤1048576) (hb:b.length≤1048576) (hc:c.length≤1048576) (H:GH):ecall T zjB [.sl 1 [.str (mkB a),.str (mkB b),.str (mkB c)] .exact] H=some (.bool (decide (a=[]∧b=[]∧c=[])),H):=by
  have:=zjA [a,b,c] .exact (by simp) (by simp; omega) H
  simpa [zlX,zbs] using this
theorem zos (k:Int) (a b c d:List UInt8) (ha:a.length≤1048576) (hb:b.length≤1048576) (hc:c.length≤1048576) (hd:d.length≤1048576) (H:GH) :
    ecall T zu8 [.agg [.int .i64 k,.str (mkB a),.str (mkB b),.str (mkB c),.str (mkB d)]] H=some (.bool (zbr k a b c d),H):=by
  apply optW.eq
  rw [zad zDA rfl (by simp [zfB]),zab]
  by_cases h1:k=1
  · have n1:=zEj a ha H
    have m1:=zEp b c d hb hc hd H
    cases hx:zaB a <;> rw [hx] at n1
    · simp [zfB,zhA,h1,n1,zbr,hx,zam]
    · simp [zfB,zhA,h1,n1,m1,zbr,hx,zam]
  · by_cases h24:k=2∨k=4
    · have n1:=zEk a d ha hd H
      have m1:=zEo b c hb hc H
      rcases h24 with h2 | h2
      · cases hx:(zaB a&&zaB d) <;> rw [hx] at n1
        · simp [zfB,zhA,h2,n1,zbr,hx,zam]
        · simp [zfB,zhA,h2,n1,m1,zbr,hx,zam]
      · cases hx:(zaB a&&zaB d) <;> rw [hx] at n1
        · simp [zfB,zhA,h2,n1,zbr,hx,zam]
        · simp [zfB,zhA,h2,n1,m1,zbr,hx,zam]
    · have h2:¬ k=2:=fun h=>h24 (.inl h)
      have h4:¬ k=4:=fun h=>h24 (.inr h)
      by_cases h3:k=3
      · have n1:=zEl a b c ha hb hc H
        have m1:=zEn d hd H
        rw [← Bool.and_assoc] at n1
        cases hx:(zaB a&&zaB b&&zaB c) <;> rw [hx] at n1
        · simp [zfB,zhA,h3,n1,zbr,hx,zam]
        · simp [zfB,zhA,h3,n1,m1,zbr,hx,zam]
      · by_cases h5:k=5
        · have n1:=zEm a b c d ha hb hc hd H
          simp [zfB,zhA,h5,n1,zbr,zam,Bool.and_assoc]
        · simp [zfB,zhA,h1,h2,h3,h4,h5,zbr]
theorem zd2 (a:List UInt8) (ha:a.length≤2000000) (H:GH):ecall T zg5 [.str (mkB a)] H=some (.bool (zaB a),H):=by
  have:=zge (mkB a) (by rw [zgc]; omega) H
  rwa [zbn] at this
theorem zuB (k:Int) (a b c d:List UInt8) (ha:a.length≤1048576) (hb:b.length≤1048576) (hc:c.length≤1048576) (hd:d.length≤1048576) (H:GH) :
    ecall T zu5 [.agg [.int .i64 k,.str (mkB a),.str (mkB b),.str (mkB c),.str (mkB d)]] H=some (.bool (zbr k a b c d),H):=by
  have n1:=zd2 a (by omega) H
  have n2:=zd2 b (by omega) H
  have n3:=zd2 c (by omega) H
  have n4:=zd2 d (by omega) H
  have n0:=zd2 [] (by simp) H
  rw [ztK] at n0
  apply optW.eq
  rw [zad zDw rfl (by simp [zee]),zab]
  by_cases h1:k=1
  · cases hx:zaB a <;> rw [hx] at n1
    · simp [zee,zfz,h1,n1,n2,n3,n4,zbr,hx]
    · by_cases e2:b=[] <;> by_cases e3:c=[] <;> simp [zee,zfz,h1,n0,n1,n2,n3,n4,zbr,hx,e2,e3]
  · by_cases h24:k=2∨k=4
    · rcases h24 with h2 | h2
      · cases hx:zaB a <;> rw [hx] at n1
        · simp [zee,zfz,h2,n1,n2,n3,n4,zbr,hx]
        · by_cases e2:b=[] <;> by_cases e3:c=[] <;> simp [zee,zfz,h2,n0,n1,n2,n3,n4,zbr,hx,e2,e3]
      · cases hx:zaB a <;> rw [hx] at n1
        · simp [zee,zfz,h2,n1,n2,n3,n4,zbr,hx]
        · by_cases e2:b=[] <;> by_cases e3:c=[] <;> simp [zee,zfz,h2,n0,n1,n2,n3,n4,zbr,hx,e2,e3]
    · have h2:¬ k=2:=fun h=>h24 (.inl h)
      have h4:¬ k=4:=fun h=>h24 (.inr h)
      by_cases h3:k=3
      · cases hx:zaB a <;> rw [hx] at n1
        · simp [zee,zfz,h3,n1,n2,n3,n4,zbr,hx]
        · cases hy:zaB b <;> rw [hy] at n2
          · simp [zee,zfz,h3,n1,n2,n3,n4,zbr,hx,hy]
          · cases hz:zaB c <;> rw [hz] at n3 <;> simp [zee,zfz,h3,n1,n2,n3,n4,zbr,hx,hy,hz]
      · by_cases h5:k=5
        · cases hx:zaB a <;> rw [hx] at n1
          · simp [zee,zfz,h5,n1,n2,n3,n4,zbr,hx]
          · cases hy:zaB b <;> rw [hy] at n2
            · simp [zee,zfz,h5,n1,n2,n3,n4,zbr,hx,hy]
            · cases hz:zaB c <;> rw [hz] at n3 <;> simp [zee,zfz,h5,n1,n2,n3,n4,zbr,hx,hy,hz]
        · simp [zee,zfz,h1,h2,h3,h4,h5,n1,n2,n3,n4,zbr]
end Go.Proofs.YtchjbidfmhmmhaaGreatDoor
namespace Go.Proofs.YtchjbidfmhmmhaaGreatDoor
open Go.Sh
set_option maxRecDepth 100000
abbrev ziy (n:Int):GV:=.int .i64 n
def zgf (r c:Int):Bool:=decide (0≤r∧r<16∧1≤c∧c≤1048576)
theorem zi0 (r c:Int) (H:GH):ecall T zqX [.agg [.int .i64 r,.int .i64 c]] H=some (.bool (zgf r c),H):=by
  apply optW.eq
  rw [zad zDn rfl (by simp [zmp]),zab]
  by_cases h1:0≤r
  · by_cases h2:r<16
    · by_cases h3:1≤c <;> simp [zmp,zve,zgf,h1,h2,h3]
    · simp [zmp,zve,zgf,h1,h2]
  · simp [zmp,zve,zgf,h1]
def zot (v:List Int):GV:=.agg (v.map fun n=>.int .i64 n)
def zdb (v:List Int) (r:Int):Int:=v.getD r.toNat 0
theorem zqH {r:Int} (h0:0≤r) (h1:r<16):gIx 16 (.int .i64 r)=some r.toNat:=by
  simp only [gIx]; rw [if_pos ⟨h0,by omega⟩]
theorem znF {v:List Int} (hv:v.length=16) {r:Int} (h0:0≤r) (h1:r<16):(v.map fun n=>GV.int .i64 n)[r.toNat]?=some (.int .i64 (zdb v r)):=by
  have hlt:r.toNat<v.length:=by omega
  simp [zdb,hlt]
def zb6 (v:List Int) (r c:Int):Bool:=zgf r c&&decide (c≤zdb v r)
def zkz (v:List Int) (r c:Int):Bool:=zgf r c&&decide (zdb v r=c - 1)
theorem zkA (v:List Int) (hv:v.length=16) (r c:Int) (H:GH):ecall T zuR [zot v,.agg [.int .i64 r,.int .i64 c]] H=some (.bool (zb6 v r c),H):=by
  apply optW.eq
  rw [zad zC4 rfl (by simp [zoM]),zab]
  have hd:=fun H=>zi0 r c H
  unfold zb6
  cases hb:zgf r c with
  | false =>
    rw [hb] at hd
    simp [zoM,zxr,zot,hd]
  | true =>
    rw [hb] at hd
    simp only [zgf,decide_eq_true_eq] at hb
    have hi:=zqH hb.1 hb.2.1
    have ha:=znF hv hb.1 hb.2.1
    simp only [List.getElem?_map,Option.map_eq_some_iff] at ha
    obtain ⟨x,hx,he⟩:=ha
    injection he with _ he
    simp [zoM,zxr,zot,hd,hi,hx,he]
theorem zl6 (v:List Int) (hv:v.length=16) (r c:Int) (H:GH):ecall T zuY [zot v,.agg [.int .i64 r,.int .i64 c]] H=some (.bool (zkz v r c),H):=by
  apply optW.eq
  rw [zad zDl rfl (by simp [zoO]),zab]
  have hd:=fun H=>zi0 r c H
  unfold zkz
  cases hb:zgf r c with
  | false =>
    rw [hb] at hd
    simp [zoO,zxv,zot,hd]
  | true =>
    rw [hb] at hd
    simp only [zgf,decide_eq_true_eq] at hb
    have hi:=zqH hb.1 hb.2.1
    have ha:=znF hv hb.1 hb.2.1
    have hw:IntKind.i64.wrap (c - 1)=c - 1:=zaq (by omega) (by omega)
    simp only [List.getElem?_map,Option.map_eq_some_iff] at ha
    obtain ⟨x,hx,he⟩:=ha
    injection he with _ he
    simp [zoO,zxv,zot,hd,hi,hx,he,hw]
def zwT (v:List Int):Bool:=v.all fun n=>decide (0≤n∧n≤1048576)
theorem zkB (v:List Int) (hv:v.length=16) (H:GH):ecall T zuZ [zot v] H=some (.bool (zwT v),H):=by
  apply optW.eq
  rw [zad zDm rfl (by simp [zrH]),zab]
  simp only [zrH,zAe,zot]
  have hl:(v.map fun n=>GV.int .i64 n).length=16:=by simp [hv]
  simp [hl,hv]
  rw [zat,zal]
  refine zes (T:=T) (n:=16) (A:=Unit) (fun _ _=>[(5,zot v)]) (fun i _ _ H'=>H'=H∧(v.take i).all (fun n=>decide (0≤n∧n≤1048576))=true) (c:=7) (b:=0) (I:=6) (d:=15) rfl (by omega) (by decide) rfl (by simp) ?_ ?_ 0 () _ _ H (by omega) ⟨rfl,by simp⟩ (by simp [zot]; exact List.take_of_length_le (by simp [hv])) (.refl _ _ _) (by simp)
  · intro i a l g H' hi ⟨hH,hall⟩ hh hf hI
    subst hH
    simp only [zax,zaE,and_true,zot] at hh
    have hlt:i<v.length:=by omega
    have hix:gIx 16 (.int .i64 (i:Int))=some i:=by simp only [gIx]; rw [if_pos (by omega)]; simp
    have hg:v[i]?=some v[i]:=List.getElem?_eq_getElem hlt
    have htake:v.take (i+1)=v.take i++[v[i]]:=by rw [List.take_add_one,hg]; rfl
    generalize v[i]=n at hg htake
    by_cases h0:n<0
    · have hb:zwT v=false:=by
        rw [Bool.eq_false_iff]; intro h
        have:=List.all_eq_true.1 h n (List.mem_of_getElem? hg)
        simp at this; omega
      simp [hh,hI,hix,hg,h0,hb]
    · by_cases h1:1048576<n
      · have hb:zwT v=false:=by
          rw [Bool.eq_false_iff]; intro h
          have:=List.all_eq_true.1 h n (List.mem_of_getElem? hg)
          simp at this; omega
        simp [hh,hI,hix,hg,h0,h1,hb]
      · have hall':(v.take (i+1)).all (fun n=>decide (0≤n∧n≤1048576))=true:=by
          rw [htake,List.all_append,hall]; simp; omega
        simp [hh,hI,hix,hg,h0,h1]
        exact fun _=>⟨by simpa using hall',rfl⟩
  · intro a l g H' ⟨hH,hall⟩ hh hf
    subst hH
    have hb:zwT v=true:=by rw [← hv,List.take_length] at hall; exact hall
    simp [hb]
end Go.Proofs.YtchjbidfmhmmhaaGreatDoor
namespace Go.Proofs.YtchjbidfmhmmhaaGreatDoor
open Go.Sh
set_option maxRecDepth 100000
theorem isNaN_int (a:Int) (H:GH):ecall T f_x3 [.int .i64 a] H=some (.bool false,H):=by
  apply optW.eq
  rw [zad T_x3 rfl (by simp [F_x3]),zab]
  simp [F_x3,b_x3]
theorem isNaN_str (a:ByteArray) (H:GH):ecall T f_x4 [.str a] H=some (.bool false,H):=by
  apply optW.eq
  rw [zad T_x4 rfl (by simp [F_x4]),zab]
  simp [F_x4,b_x4]
theorem cmp_int (a b:Int) (H:GH):ecall T f_x0 [.int .i64 a,.int .i64 b] H=some (.int .i64 (zc7 a b),H):=by
  apply optW.eq
  rw [zad T_x0 rfl (by simp [F_x0]),zab]
  by_cases h:a<b
  · simp [F_x0,b_x0,isNaN_int,zc7,h]
  · by_cases h':b<a <;> simp [F_x0,b_x0,isNaN_int,zc7,h,h']
theorem cmp_str (a b:ByteArray) (H:GH):ecall T f_x1 [.str a,.str b] H=some (.int .i64 (zzk a b),H):=by
  apply optW.eq
  rw [zad T_x1 rfl (by simp [F_x1]),zab]
  unfold zzk
  cases h:Op.bytesLess a.toList b.toList
  · by_cases h':a.toList=b.toList
    · have h2:=h
      rw [h'] at h2
      simp [F_x1,b_x1,isNaN_str,h2,h',zks]
    · have h3:(a.toList == b.toList)=false:=beq_eq_false_iff_ne.2 h'
      simp [F_x1,b_x1,isNaN_str,h,h',h3,zks]
  · simp [F_x1,b_x1,isNaN_str,h,zks]
theorem cmp_lex (a b:List UInt8) (H:GH):ecall T f_x1 [.str (mkB a),.str (mkB b)] H=some (.int .i64 (zcc a b),H):=by
  have:=cmp_str (mkB a) (mkB b) H
  rwa [zog,zbn,zbn] at this
theorem cmp_or2 (x y:Int) (H:GH):ecall T f_x2 [.sl 1 [.int .i64 x,.int .i64 y] .exact] H=some (.int .i64 (orL [x,y]),H):=by
  apply optW.eq
  rw [zad T_x2 rfl (by simp [F_x2]),zab]
  have w1:IntKind.i64.wrap 1=1:=by decide
  have w2:IntKind.i64.wrap 2=2:=by decide
  by_cases hx:x=0
  · by_cases hy:y=0 <;> simp [F_x2,b_x2,hx,hy,zak,L0_x2,gIx,w1,w2,orL]
  · simp [F_x2,b_x2,hx,zak,L0_x2,gIx,w1,w2,orL]
theorem cmp_or5 (x y z u v:Int) (H:GH):ecall T f_x2 [.sl 1 [.int .i64 x,.int .i64 y,.int .i64 z,.int .i64 u,.int .i64 v] .exact] H=some (.int .i64 (orL [x,y,z,u,v]),H):=by
  apply optW.eq
  rw [zad T_x2 rfl (by simp [F_x2]),zab]
  have w1:IntKind.i64.wrap 1=1:=by decide
  have w2:IntKind.i64.wrap 2=2:=by decide
  have w3:IntKind.i64.wrap 3=3:=by decide
  have w4:IntKind.i64.wrap 4=4:=by decide
  have w5:IntKind.i64.wrap 5=5:=by decide
  by_cases hx:x=0
  · by_cases hy:y=0
    · by_cases hz:z=0
      · by_cases hu:u=0
        · by_cases hv:v=0 <;> simp [F_x2,b_x2,hx,hy,hz,hu,hv,zak,L0_x2,gIx,w1,w2,w3,w4,w5,orL]
        · simp [F_x2,b_x2,hx,hy,hz,hu,zak,L0_x2,gIx,w1,w2,w3,w4,w5,orL]
      · simp [F_x2,b_x2,hx,hy,hz,zak,L0_x2,gIx,w1,w2,w3,w4,w5,orL]
    · simp [F_x2,b_x2,hx,hy,zak,L0_x2,gIx,w1,w2,w3,w4,w5,orL]
  · simp [F_x2,b_x2,hx,zak,L0_x2,gIx,w1,w2,w3,w4,w5,orL]
theorem store_Order (x y:El) (H:GH):ecall T f_x68 [.agg (elC x),.agg (elC y)] H=some (.int .i64 (zdo x y),H):=by
  apply optW.eq
  rw [zad T_x68 rfl (by simp [F_x68]),zab]
  simp [F_x68,b_x68,elC,cmp_int,cmp_lex,zam,cmp_or5,zdo]
theorem zhs (x y:Ent) (H:GH):ecall T zxl [.agg (zcV x),.agg (zcV y)] H=some (.int .i64 (zdr x y),H):=by
  apply optW.eq
  rw [zad zC6 rfl (by simp [zrw]),zab]
  simp [zrw,zz0,zcV,cmp_int,zam,cmp_or2,zdr]
theorem zht (a b:List UInt8):zks .lss (mkB a) (mkB b)=some (.bool (decide (zcc a b<0))):=by
  unfold zks
  congr 2
  rw [ByteArray.toList_eq,ByteArray.toList_eq,zbn,zbn,← zkm]
  cases h:Op.bytesLess a b
  · by_cases h2:a=b <;> simp [h2]
  · simp
end Go.Proofs.YtchjbidfmhmmhaaGreatDoor
namespace Go.Proofs.YtchjbidfmhmmhaaGreatDoor
open Go.Sh
set_option maxHeartbeats 4000000
set_option maxRecDepth 100000
theorem zuC (x y:El) (H:GH):ecall T zu3 [.agg (elC x),.agg (elC y)] H=some (.bool (znr x y),H):=by
  apply optW.eq
  rw [zad zDu rfl (by simp [ziH]),zab]
  unfold znr zdo
  by_cases h1:x.k=y.k
  · have e1:=(zbJ _ _).2 h1
    by_cases h2:x.a=y.a
    · have e2:=(zbK _ _).2 h2
      by_cases h3:x.b=y.b
      · have e3:=(zbK _ _).2 h3
        by_cases h4:x.c=y.c
        · have e4:=(zbK _ _).2 h4
          have e6:zc7 y.k y.k=0:=(zbJ _ _).2 rfl
          by_cases h5:x.d=y.d
          · simp [ziH,zmr,elC,h1,h2,h3,h4,h5,zht,orL,zdM,e6]
          · have e5:zcc x.d y.d≠0:=fun h=>h5 ((zbK _ _).1 h)
            simp [ziH,zmr,elC,h1,h2,h3,h4,zht,orL,zdM,e5,e6]
        · have e4:zcc x.c y.c≠0:=fun h=>h4 ((zbK _ _).1 h)
          have e6:zc7 y.k y.k=0:=(zbJ _ _).2 rfl
          simp [ziH,zmr,elC,h1,h2,h3,h4,zht,orL,zdM,e4,e6]
      · have e3:zcc x.b y.b≠0:=fun h=>h3 ((zbK _ _).1 h)
        have e6:zc7 y.k y.k=0:=(zbJ _ _).2 rfl
        simp [ziH,zmr,elC,h1,h2,h3,zht,orL,zdM,e3,e6]
    · have e2:zcc x.a y.a≠0:=fun h=>h2 ((zbK _ _).1 h)
      have e6:zc7 y.k y.k=0:=(zbJ _ _).2 rfl
      simp [ziH,zmr,elC,h1,h2,zht,orL,e2,e6]
  · have e1:zc7 x.k y.k≠0:=fun h=>h1 ((zbJ _ _).1 h)
    simp [ziH,zmr,elC,h1,orL,e1,zwE]
end Go.Proofs.YtchjbidfmhmmhaaGreatDoor
