/- Own work: the zaH machine and what it shows, part El. -/
import Derived.Test.YtchjbidfmhmmhaaGreatDoorVa
import Derived.Test.YtchjbidfmhmmhaaGreatDoorShF
import Derived.Test.YtchjbidfmhmmhaaGreatDoorVp
import Derived.Test.YtchjbidfmhmmhaaGreatDoorLib
import Derived.Test.YtchjbidfmhmmhaaGreatDoorShH
set_option linter.all false
namespace Go.Proofs.YtchjbidfmhmmhaaGreatDoor
open Go.Sh
set_option maxRecDepth 100000
theorem zam {sz:Nat} {s:GV} {xs:List GV} (h:Elems sz s xs) (t:Nat):zbm t s = s := by cases h <;> rfl
def zbP (l:List UInt8):GV := .str (mkB l)
def zkH (L:List (List UInt8)) (t:Tag):GV := .sl 1 (L.map zbP) t
theorem zjm:∀ L:List (List UInt8),zgE (L.map zbP) = some (L.map mkB)
  | [] => rfl
  | l :: L => by simp [zgE,zbP,zjm L]
theorem zva (v:GV) (L:List (List UInt8)) (hv:Elems 1 v (L.map zbP)) (sep:List UInt8) (h1:L.length ≤ 1048576) (h2:(Lib.join L sep).length ≤ 100000000) (H:GH):ecall T zvj [v,.str (mkB sep)] H = some (.str (mkB (Lib.join L sep)),H) := by
  rw [zfh zAJ (by decide) (by simp [ztd])]
  generalize hxs:L.map zbP = xs at hv
  cases hv with
  | nil =>
    have:L = [] := by simpa using hxs
    subst this
    rfl
  | sl xs t =>
    subst hxs
    have e:(L.map mkB).map (fun s:ByteArray => s.data.toList) = L := by simp [List.map_map,Function.comp_def]
    simp only [zkJ,zsh,zvE,ztd,zjm,Option.bind_some,zb3,List.length_map]
    have hc:L.length ≤ 140737488355328 ∧ (Lib.join L sep).length ≤ 140737488355328 := ⟨by omega,by omega⟩
    rw [e,if_pos hc]
    rfl
theorem zkP (a:List UInt8) (ha:a.length ≤ 2000000) (H:GH):ecall T zkY [.str (mkB a)] H = some (.bool (zaJ a),H) := by
  have := zcD (mkB a) (by rw [zus]; omega) H
  rwa [zb3] at this
theorem zsB (all:List (List UInt8)) (t:Tag) (hall:all.length ≤ 1000) (hsz:∀ w ∈ all,w.length ≤ 2000000) (xs:List (List UInt8)):∀ (j:Nat) (_:all.drop j = xs) (l:List GV) (g:Nat) (H:GH) (K:GExit × St → Prop)
    (_:zag l 5 = zkH all t) (_:zag l 6 = .int .i64 all.length) (_:zag l 7 = .int .i64 j)
    (_:∀ (l':List GV),xs.all zaJ = true → K (.exit 0,⟨⟨l',g⟩,H⟩))
    (_:∀ (l':List GV),zag l' 2 = .bool false → xs.all zaJ = false → K (.ret,⟨⟨l',g⟩,H⟩)),
    optW (erun T (.loop zeN) ⟨⟨l,g⟩,H⟩) K := by
  induction xs with
  | nil =>
    intro j hd l g H K h5 h6 h7 he hr
    have hle:all.length ≤ j := by simpa using hd
    have hge:¬ ((j:Int) < all.length) := by omega
    have hge':¬ (j < all.length) := by omega
    rw [zaj]
    simp [zeN,h6,h7,hge,hge']
    exact he _ rfl
  | cons x xs ih =>
    intro j hd l g H K h5 h6 h7 he hr
    have hj:j < all.length := by
      rcases Nat.lt_or_ge j all.length with h1 | h1
      · exact h1
      · rw [List.drop_eq_nil_of_le h1] at hd; cases hd
    have hgv:all[j]? = some x := by
      have := congrArg (·[0]?) hd
      simpa using this
    have hd':all.drop (j + 1) = xs := by
      have := congrArg List.tail hd
      simpa using this
    have hgd:∀ h:j < all.length,all[j]'h = x := fun h => by rw [List.getElem?_eq_getElem h] at hgv; exact Option.some.inj hgv
    have hlt:(j:Int) < all.length := by omega
    have hix:gIx all.length (.int .i64 (j:Int)) = some j := by simp only [gIx]; rw [if_pos (by omega)]; simp
    have hw:IntKind.i64.wrap ((j:Int) + 1) = (j:Int) + 1 := zaB (by omega) (by omega)
    have hn := zkP x (hsz x (List.mem_of_getElem? hgv)) H
    simp only [zkH] at h5
    cases hx:zaJ x <;> rw [hx] at hn
    · rw [zaj,zaz]
      simp [zeN,h5,h6,h7,hlt,hj,hix,hgv,hgd,zbP,hn]
      exact hr _ (by simp) (by simp [hx])
    · rw [zaj,zaz]
      simp [zeN,h5,h6,h7,hlt,hj,hix,hgv,hgd,zbP,hn,hw]
      refine ih (j + 1) hd' _ _ H K ?_ ?_ ?_ ?_ ?_
      · simp [h5,zkH]
      · simp [h6]
      · simp
      · intro l' e; exact he l' (by simpa [hx] using e)
      · intro l' e2 e; exact hr l' e2 (by simpa [hx] using e)
theorem zmn (L:List (List UInt8)) (t:Tag) (hL:L.length ≤ 1000) (hsz:∀ w ∈ L,w.length ≤ 2000000) (H:GH):ecall T zft [zkH L t] H = some (.bool (L.all zaJ),H) := by
  apply optW.eq
  rw [zae zyj rfl (by simp [zhD]),zab]
  simp only [zhD,znq,zkH]
  simp
  rw [zaz,zaC]
  refine zsB L t hL hsz L 0 rfl _ _ _ _ ?_ ?_ ?_ ?_ ?_
  · simp [zkH]
  · simp
  · simp
  · intro l' e
    simp
    simpa using e
  · intro l' e2 e
    simp [e2]
    simpa using e
theorem zvb:∀ (L:List (List UInt8)),Lib.join L [] = L.flatten
  | [] => rfl
  | [x] => by simp [Lib.join_one]
  | x :: y :: L => by
    have := zvb (y :: L)
    simp only [Lib.join,List.intercalate,List.intersperse,List.flatten_cons,List.nil_append] at this ⊢
    rw [this]
theorem ziq (L:List (List UInt8)) (t:Tag) (h1:L.length ≤ 1000) (h2:L.flatten.length ≤ 100000000) (H:GH):ecall T zit [zkH L t] H = some (.bool (decide (L.flatten = [])),H) := by
  have hj := zva (zkH L t) L (.sl _ _) [] (by omega) (by rw [zvb]; exact h2) H
  rw [zvb] at hj
  have e:mkB [] = ⟨#[]⟩ := rfl
  rw [e] at hj
  apply optW.eq
  rw [zae zBf rfl (by simp [zp2]),zab]
  simp only [zkH] at hj ⊢
  simp [zp2,zx9,hj]
theorem zB4 (a:List UInt8) (ha:a.length ≤ 1048576) (H:GH):ecall T zft [.sl 1 [.str (mkB a)] .exact] H = some (.bool (zaJ a),H) := by
  have := zmn [a] .exact (by simp) (by simp; omega) H
  simpa [zkH,zbP] using this
theorem zB5 (a b:List UInt8) (ha:a.length ≤ 1048576) (hb:b.length ≤ 1048576) (H:GH):ecall T zft [.sl 1 [.str (mkB a),.str (mkB b)] .exact] H = some (.bool (zaJ a && zaJ b),H) := by
  have := zmn [a,b] .exact (by simp) (by simp; omega) H
  simpa [zkH,zbP] using this
theorem zB6 (a b c:List UInt8) (ha:a.length ≤ 1048576) (hb:b.length ≤ 1048576) (hc:c.length ≤ 1048576) (H:GH):ecall T zft [.sl 1 [.str (mkB a),.str (mkB b),.str (mkB c)] .exact] H = some (.bool (zaJ a && (zaJ b && zaJ c)),H) := by
  have := zmn [a,b,c] .exact (by simp) (by simp; omega) H
  simpa [zkH,zbP] using this
theorem zB7 (a b c d:List UInt8) (ha:a.length ≤ 1048576) (hb:b.length ≤ 1048576) (hc:c.length ≤ 1048576) (hd:d.length ≤ 1048576) (H:GH):ecall T zft [.sl 1 [.str (mkB a),.str (mkB b),.str (mkB c),.str (mkB d)] .exact] H = some (.bool (zaJ a && (zaJ b && (zaJ c && zaJ d))),H) := by
  have := zmn [a,b,c,d] .exact (by simp) (by simp; omega) H
  simpa [zkH,zbP] using this
theorem zB8 (a:List UInt8) (ha:a.length ≤ 1048576) (H:GH):ecall T zit [.sl 1 [.str (mkB a)] .exact] H = some (.bool (decide (a = [])),H) := by
  have := ziq [a] .exact (by simp) (by simp; omega) H
  simpa [zkH,zbP] using this
theorem zB9 (a b:List UInt8) (ha:a.length ≤ 1048576) (hb:b.length ≤ 1048576) (H:GH):ecall T zit [.sl 1 [.str (mkB a),.str (mkB b)] .exact] H = some (.bool (decide (a = [] ∧ b = [])),H) := by
  have := ziq [a,b] .exact (by simp) (by simp; omega) H
  simpa [zkH,zbP] using this
theorem zCa (a b c:List UInt8) (ha:a.length ≤ 1048576) (hb:b.length ≤ 1048576) (hc:c.length ≤ 1048576) (H:GH):ecall T zit [.sl 1 [.str (mkB a),.str (mkB b),.str (mkB c)] .exact] H = some (.bool (decide (a = [] ∧ b = [] ∧ c = [])),H) := by
  have := ziq [a,b,c] .exact (by simp) (by simp; omega) H
  simpa [zkH,zbP] using this
theorem zm2 (k:Int) (a b c d:List UInt8) (ha:a.length ≤ 1048576) (hb:b.length ≤ 1048576) (hc:c.length ≤ 1048576) (hd:d.length ≤ 1048576) (H:GH) :
    ecall T zs7 [.agg [.int .i64 k,.str (mkB a),.str (mkB b),.str (mkB c),.str (mkB d)]] H = some (.bool (zcM k a b c d),H) := by
  apply optW.eq
  rw [zae zBa rfl (by simp [zeO]),zab]
  by_cases h1:k = 1
  · have n1 := zB4 a ha H
    have m1 := zCa b c d hb hc hd H
    cases hx:zaJ a <;> rw [hx] at n1
    · simp [zeO,zgz,h1,n1,zcM,hx,zao]
    · simp [zeO,zgz,h1,n1,m1,zcM,hx,zao]
  · by_cases h24:k = 2 ∨ k = 4
    · have n1 := zB5 a d ha hd H
      have m1 := zB9 b c hb hc H
      rcases h24 with h2 | h2
      · cases hx:(zaJ a && zaJ d) <;> rw [hx] at n1
        · simp [zeO,zgz,h2,n1,zcM,hx,zao]
        · simp [zeO,zgz,h2,n1,m1,zcM,hx,zao]
      · cases hx:(zaJ a && zaJ d) <;> rw [hx] at n1
        · simp [zeO,zgz,h2,n1,zcM,hx,zao]
        · simp [zeO,zgz,h2,n1,m1,zcM,hx,zao]
    · have h2:¬ k = 2 := fun h => h24 (.inl h)
      have h4:¬ k = 4 := fun h => h24 (.inr h)
      by_cases h3:k = 3
      · have n1 := zB6 a b c ha hb hc H
        have m1 := zB8 d hd H
        rw [← Bool.and_assoc] at n1
        cases hx:(zaJ a && zaJ b && zaJ c) <;> rw [hx] at n1
        · simp [zeO,zgz,h3,n1,zcM,hx,zao]
        · simp [zeO,zgz,h3,n1,m1,zcM,hx,zao]
      · by_cases h5:k = 5
        · have n1 := zB7 a b c d ha hb hc hd H
          simp [zeO,zgz,h5,n1,zcM,zao,Bool.and_assoc]
        · simp [zeO,zgz,h1,h2,h3,h4,h5,zcM]
end Go.Proofs.YtchjbidfmhmmhaaGreatDoor
namespace Go.Proofs.YtchjbidfmhmmhaaGreatDoor
open Go.Sh
set_option maxRecDepth 100000
def zir (r c:Int):Bool := decide (0 ≤ r ∧ r < 16 ∧ 1 ≤ c ∧ c ≤ 1048576)
theorem zhQ (r c:Int) (H:GH):ecall T zph [.agg [.int .i64 r,.int .i64 c]] H = some (.bool (zir r c),H) := by
  apply optW.eq
  rw [zae zAP rfl (by simp [zla]),zab]
  by_cases h1:0 ≤ r
  · by_cases h2:r < 16
    · by_cases h3:1 ≤ c <;> simp [zla,zte,zir,h1,h2,h3]
    · simp [zla,zte,zir,h1,h2]
  · simp [zla,zte,zir,h1]
def zm3 (v:List Int):GV := .agg (v.map fun n => .int .i64 n)
def zjn (v:List Int) (r:Int):Int := v.getD r.toNat 0
theorem zxn {r:Int} (h0:0 ≤ r) (h1:r < 16):gIx 16 (.int .i64 r) = some r.toNat := by
  simp only [gIx]; rw [if_pos ⟨h0,by omega⟩]
theorem zuK {v:List Int} (hv:v.length = 16) {r:Int} (h0:0 ≤ r) (h1:r < 16):(v.map fun n => GV.int .i64 n)[r.toNat]? = some (.int .i64 (zjn v r)) := by
  have hlt:r.toNat < v.length := by omega
  simp [zjn,hlt]
def zcF (v:List Int) (r c:Int):Bool := zir r c && decide (c ≤ zjn v r)
def zm4 (v:List Int) (r c:Int):Bool := zir r c && decide (zjn v r = c - 1)
theorem zjo (v:List Int) (hv:v.length = 16) (r c:Int) (H:GH):ecall T zsL [zm3 v,.agg [.int .i64 r,.int .i64 c]] H = some (.bool (zcF v r c),H) := by
  apply optW.eq
  rw [zae zAw rfl (by simp [znh]),zab]
  have hd := fun H => zhQ r c H
  unfold zcF
  cases hb:zir r c with
  | false =>
    rw [hb] at hd
    simp [znh,zvp,zm3,hd]
  | true =>
    rw [hb] at hd
    simp only [zir,decide_eq_true_eq] at hb
    have hi := zxn hb.1 hb.2.1
    have ha := zuK hv hb.1 hb.2.1
    simp only [List.getElem?_map,Option.map_eq_some_iff] at ha
    obtain ⟨x,hx,he⟩ := ha
    injection he with _ he
    simp [znh,zvp,zm3,hd,hi,hx,he]
theorem zkQ (v:List Int) (hv:v.length = 16) (r c:Int) (H:GH):ecall T zsS [zm3 v,.agg [.int .i64 r,.int .i64 c]] H = some (.bool (zm4 v r c),H) := by
  apply optW.eq
  rw [zae zAL rfl (by simp [znj]),zab]
  have hd := fun H => zhQ r c H
  unfold zm4
  cases hb:zir r c with
  | false =>
    rw [hb] at hd
    simp [znj,zvr,zm3,hd]
  | true =>
    rw [hb] at hd
    simp only [zir,decide_eq_true_eq] at hb
    have hi := zxn hb.1 hb.2.1
    have ha := zuK hv hb.1 hb.2.1
    have hw:IntKind.i64.wrap (c - 1) = c - 1 := zaB (by omega) (by omega)
    simp only [List.getElem?_map,Option.map_eq_some_iff] at ha
    obtain ⟨x,hx,he⟩ := ha
    injection he with _ he
    simp [znj,zvr,zm3,hd,hi,hx,he,hw]
def zwM (v:List Int):Bool := v.all fun n => decide (0 ≤ n ∧ n ≤ 1048576)
theorem zjp (v:List Int) (hv:v.length = 16) (H:GH):ecall T zsT [zm3 v] H = some (.bool (zwM v),H) := by
  apply optW.eq
  rw [zae zAM rfl (by simp [zpH]),zab]
  simp only [zpH,zxQ,zm3]
  have hl:(v.map fun n => GV.int .i64 n).length = 16 := by simp [hv]
  simp [hl,hv]
  rw [zaz,zaC]
  refine zku (T := T) (n := 16) (A := Unit) (fun _ _ => [(5,zm3 v)]) (fun i _ _ H' => H' = H ∧ (v.take i).all (fun n => decide (0 ≤ n ∧ n ≤ 1048576)) = true) (c := 7) (b := 0) (I := 6) (d := 15) rfl (by omega) (by decide) rfl (by simp) ?_ ?_ 0 () _ _ H (by omega) ⟨rfl,by simp⟩ (by simp [zm3]; exact List.take_of_length_le (by simp [hv])) (.refl _ _ _) (by simp)
  · intro i a l g H' hi ⟨hH,hall⟩ hh hf hI
    subst hH
    simp only [zc5,zdS,and_true,zm3] at hh
    have hlt:i < v.length := by omega
    have hix:gIx 16 (.int .i64 (i:Int)) = some i := by simp only [gIx]; rw [if_pos (by omega)]; simp
    have hg:v[i]? = some v[i] := List.getElem?_eq_getElem hlt
    have htake:v.take (i + 1) = v.take i ++ [v[i]] := by rw [List.take_add_one,hg]; rfl
    generalize v[i] = n at hg htake
    by_cases h0:n < 0
    · have hb:zwM v = false := by
        rw [Bool.eq_false_iff]; intro h
        have := List.all_eq_true.1 h n (List.mem_of_getElem? hg)
        simp at this; omega
      simp [hh,hI,hix,hg,h0,hb]
    · by_cases h1:1048576 < n
      · have hb:zwM v = false := by
          rw [Bool.eq_false_iff]; intro h
          have := List.all_eq_true.1 h n (List.mem_of_getElem? hg)
          simp at this; omega
        simp [hh,hI,hix,hg,h0,h1,hb]
      · have hall':(v.take (i + 1)).all (fun n => decide (0 ≤ n ∧ n ≤ 1048576)) = true := by
          rw [htake,List.all_append,hall]; simp; omega
        simp [hh,hI,hix,hg,h0,h1]
        exact fun _ => ⟨by simpa using hall',rfl⟩
  · intro a l g H' ⟨hH,hall⟩ hh hf
    subst hH
    have hb:zwM v = true := by rw [← hv,List.take_length] at hall; exact hall
    simp [hb]
end Go.Proofs.YtchjbidfmhmmhaaGreatDoor
namespace Go.Proofs.YtchjbidfmhmmhaaGreatDoor
open Go.Sh
set_option maxRecDepth 100000
theorem isNaN_int (a:Int) (H:GH):ecall T f_x3 [.int .i64 a] H = some (.bool false,H) := by
  apply optW.eq
  rw [zae T_x3 rfl (by simp [F_x3]),zab]
  simp [F_x3,b_x3]
theorem isNaN_str (a:ByteArray) (H:GH):ecall T f_x4 [.str a] H = some (.bool false,H) := by
  apply optW.eq
  rw [zae T_x4 rfl (by simp [F_x4]),zab]
  simp [F_x4,b_x4]
theorem cmp_int (a b:Int) (H:GH):ecall T f_x0 [.int .i64 a,.int .i64 b] H = some (.int .i64 (zhM a b),H) := by
  apply optW.eq
  rw [zae T_x0 rfl (by simp [F_x0]),zab]
  by_cases h:a < b
  · simp [F_x0,b_x0,isNaN_int,zhM,h]
  · by_cases h':b < a <;> simp [F_x0,b_x0,isNaN_int,zhM,h,h']
theorem cmp_str (a b:ByteArray) (H:GH):ecall T f_x1 [.str a,.str b] H = some (.int .i64 (zxe a b),H) := by
  apply optW.eq
  rw [zae T_x1 rfl (by simp [F_x1]),zab]
  unfold zxe
  cases h:Op.bytesLess a.toList b.toList
  · by_cases h':a.toList = b.toList
    · have h2 := h
      rw [h'] at h2
      simp [F_x1,b_x1,isNaN_str,h2,h',zkI]
    · have h3:(a.toList == b.toList) = false := beq_eq_false_iff_ne.2 h'
      simp [F_x1,b_x1,isNaN_str,h,h',h3,zkI]
  · simp [F_x1,b_x1,isNaN_str,h,zkI]
theorem cmp_lex (a b:List UInt8) (H:GH):ecall T f_x1 [.str (mkB a),.str (mkB b)] H = some (.int .i64 (zcJ a b),H) := by
  have := cmp_str (mkB a) (mkB b) H
  rwa [zmQ,zb3,zb3] at this
theorem cmp_or2 (x y:Int) (H:GH):ecall T f_x2 [.sl 1 [.int .i64 x,.int .i64 y] .exact] H = some (.int .i64 (orL [x,y]),H) := by
  apply optW.eq
  rw [zae T_x2 rfl (by simp [F_x2]),zab]
  have w1:IntKind.i64.wrap 1 = 1 := by decide
  have w2:IntKind.i64.wrap 2 = 2 := by decide
  by_cases hx:x = 0
  · by_cases hy:y = 0 <;> simp [F_x2,b_x2,hx,hy,zaj,L0_x2,gIx,w1,w2,orL]
  · simp [F_x2,b_x2,hx,zaj,L0_x2,gIx,w1,w2,orL]
theorem cmp_or5 (x y z u v:Int) (H:GH):ecall T f_x2 [.sl 1 [.int .i64 x,.int .i64 y,.int .i64 z,.int .i64 u,.int .i64 v] .exact] H = some (.int .i64 (orL [x,y,z,u,v]),H) := by
  apply optW.eq
  rw [zae T_x2 rfl (by simp [F_x2]),zab]
  have w1:IntKind.i64.wrap 1 = 1 := by decide
  have w2:IntKind.i64.wrap 2 = 2 := by decide
  have w3:IntKind.i64.wrap 3 = 3 := by decide
  have w4:IntKind.i64.wrap 4 = 4 := by decide
  have w5:IntKind.i64.wrap 5 = 5 := by decide
  by_cases hx:x = 0
  · by_cases hy:y = 0
    · by_cases hz:z = 0
      · by_cases hu:u = 0
        · by_cases hv:v = 0 <;> simp [F_x2,b_x2,hx,hy,hz,hu,hv,zaj,L0_x2,gIx,w1,w2,w3,w4,w5,orL]
        · simp [F_x2,b_x2,hx,hy,hz,hu,zaj,L0_x2,gIx,w1,w2,w3,w4,w5,orL]
      · simp [F_x2,b_x2,hx,hy,hz,zaj,L0_x2,gIx,w1,w2,w3,w4,w5,orL]
    · simp [F_x2,b_x2,hx,hy,zaj,L0_x2,gIx,w1,w2,w3,w4,w5,orL]
  · simp [F_x2,b_x2,hx,zaj,L0_x2,gIx,w1,w2,w3,w4,w5,orL]
theorem store_Order (x y:El) (H:GH):ecall T f_x62 [.agg (elC x),.agg (elC y)] H = some (.int .i64 (zho x y),H) := by
  apply optW.eq
  rw [zae T_x62 rfl (by simp [F_x62]),zab]
  simp [F_x62,b_x62,elC,cmp_int,cmp_lex,zao,cmp_or5,zho]
theorem zgt (x y:Ent) (H:GH):ecall T zvh [.agg (zcC x),.agg (zcC y)] H = some (.int .i64 (zdq x y),H) := by
  apply optW.eq
  rw [zae zAy rfl (by simp [zpy]),zab]
  simp [zpy,zxD,zcC,cmp_int,zao,cmp_or2,zdq]
end Go.Proofs.YtchjbidfmhmmhaaGreatDoor
namespace Go.Proofs.YtchjbidfmhmmhaaGreatDoor
open Go.Sh
set_option maxHeartbeats 4000000
set_option maxRecDepth 100000
end Go.Proofs.YtchjbidfmhmmhaaGreatDoor
