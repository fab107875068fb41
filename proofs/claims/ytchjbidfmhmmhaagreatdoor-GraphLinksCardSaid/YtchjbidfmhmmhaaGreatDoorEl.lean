/- Own work: the zaL machine and what it shows, part El. -/
import Derived.Test.YtchjbidfmhmmhaaGreatDoorVa
import Derived.Test.YtchjbidfmhmmhaaGreatDoorShF
import Derived.Test.YtchjbidfmhmmhaaGreatDoorVp
import Derived.Test.YtchjbidfmhmmhaaGreatDoorLib
import Derived.Test.YtchjbidfmhmmhaaGreatDoorShH
set_option linter.all false
namespace Go.Proofs.YtchjbidfmhmmhaaGreatDoor
open Go.Sh
set_option maxRecDepth 100000
theorem zam {sz:Nat} {s:GV} {xs:List GV} (h:Elems sz s xs) (t:Nat):zbt t s = s := by cases h <;> rfl
def zb7 (l:List UInt8):GV := .str (mkB l)
def zlt (L:List (List UInt8)) (t:Tag):GV := .sl 1 (L.map zb7) t
theorem zj8:∀ L:List (List UInt8),zhr (L.map zb7) = some (L.map mkB)
  | [] => rfl
  | l :: L => by simp [zhr,zb7,zj8 L]
theorem zwm (v:GV) (L:List (List UInt8)) (hv:Elems 1 v (L.map zb7)) (sep:List UInt8) (h1:L.length ≤ 1048576) (h2:(Lib.join L sep).length ≤ 100000000) (H:GH):ecall T znV [v,.str (mkB sep)] H = some (.str (mkB (Lib.join L sep)),H) := by
  rw [zfQ zB0 (by decide) (by simp [zum])]
  generalize hxs:L.map zb7 = xs at hv
  cases hv with
  | nil =>
    have:L = [] := by simpa using hxs
    subst this
    rfl
  | sl xs t =>
    subst hxs
    have e:(L.map mkB).map (fun s:ByteArray => s.data.toList) = L := by simp [List.map_map,Function.comp_def]
    simp only [zlu,ztr,zwT,zum,zj8,Option.bind_some,zbu,List.length_map]
    have hc:L.length ≤ 140737488355328 ∧ (Lib.join L sep).length ≤ 140737488355328 := ⟨by omega,by omega⟩
    rw [e,if_pos hc]
    rfl
theorem zlB (a:List UInt8) (ha:a.length ≤ 2000000) (H:GH):ecall T znZ [.str (mkB a)] H = some (.bool (zaC a),H) := by
  have := zdl (mkB a) (by rw [zjV]; omega) H
  rwa [zbu] at this
theorem ztK (all:List (List UInt8)) (t:Tag) (hall:all.length ≤ 1000) (hsz:∀ w ∈ all,w.length ≤ 2000000) (xs:List (List UInt8)):∀ (j:Nat) (_:all.drop j = xs) (l:List GV) (g:Nat) (H:GH) (K:GExit × St → Prop)
    (_:zaf l 5 = zlt all t) (_:zaf l 6 = .int .i64 all.length) (_:zaf l 7 = .int .i64 j)
    (_:∀ (l':List GV),xs.all zaC = true → K (.exit 0,⟨⟨l',g⟩,H⟩))
    (_:∀ (l':List GV),zaf l' 2 = .bool false → xs.all zaC = false → K (.ret,⟨⟨l',g⟩,H⟩)),
    optW (erun T (.loop zfl) ⟨⟨l,g⟩,H⟩) K := by
  induction xs with
  | nil =>
    intro j hd l g H K h5 h6 h7 he hr
    have hle:all.length ≤ j := by simpa using hd
    have hge:¬ ((j:Int) < all.length) := by omega
    have hge':¬ (j < all.length) := by omega
    rw [zak]
    simp [zfl,h6,h7,hge,hge']
    exact he _ rfl
  | cons x xs ih =>
    intro j hd l g H K h5 h6 h7 he hr
    have hj:j < all.length := by
      rcases Nat.lt_or_ge j all.length with h1 | h1
      · exact h1
      · rw [List.drop_eq_nil_of_le h1] at hd; cases hd
    have hgv:all[j]? = some x := by
      have := congrArg (·[0]?) hd
      simpa using this
    have hd':all.drop (j + 1) = xs := by
      have := congrArg List.tail hd
      simpa using this
    have hgd:∀ h:j < all.length,all[j]'h = x := fun h => by rw [List.getElem?_eq_getElem h] at hgv; exact Option.some.inj hgv
    have hlt:(j:Int) < all.length := by omega
    have hix:gIx all.length (.int .i64 (j:Int)) = some j := by simp only [gIx]; rw [if_pos (by omega)]; simp
    have hw:IntKind.i64.wrap ((j:Int) + 1) = (j:Int) + 1 := zaq (by omega) (by omega)
    have hn := zlB x (hsz x (List.mem_of_getElem? hgv)) H
    simp only [zlt] at h5
    cases hx:zaC x <;> rw [hx] at hn
    · rw [zak,zaw]
      simp [zfl,h5,h6,h7,hlt,hj,hix,hgv,hgd,zb7,hn]
      exact hr _ (by simp) (by simp [hx])
    · rw [zak,zaw]
      simp [zfl,h5,h6,h7,hlt,hj,hix,hgv,hgd,zb7,hn,hw]
      refine ih (j + 1) hd' _ _ H K ?_ ?_ ?_ ?_ ?_
      · simp [h5,zlt]
      · simp [h6]
      · simp
      · intro l' e; exact he l' (by simpa [hx] using e)
      · intro l' e2 e; exact hr l' e2 (by simpa [hx] using e)
theorem zm3 (L:List (List UInt8)) (t:Tag) (hL:L.length ≤ 1000) (hsz:∀ w ∈ L,w.length ≤ 2000000) (H:GH):ecall T zf3 [zlt L t] H = some (.bool (L.all zaC),H) := by
  apply optW.eq
  rw [zad zzv rfl (by simp [zik]),zab]
  simp only [zik,zoa,zlt]
  simp
  rw [zaw,zao]
  refine ztK L t hL hsz L 0 rfl _ _ _ _ ?_ ?_ ?_ ?_ ?_
  · simp [zlt]
  · simp
  · simp
  · intro l' e
    simp
    simpa using e
  · intro l' e2 e
    simp [e2]
    simpa using e
theorem zwn:∀ (L:List (List UInt8)),Lib.join L [] = L.flatten
  | [] => rfl
  | [x] => by simp [Lib.join_one]
  | x :: y :: L => by
    have := zwn (y :: L)
    simp only [Lib.join,List.intercalate,List.intersperse,List.flatten_cons,List.nil_append] at this ⊢
    rw [this]
theorem zjc (L:List (List UInt8)) (t:Tag) (h1:L.length ≤ 1000) (h2:L.flatten.length ≤ 100000000) (H:GH):ecall T zjd [zlt L t] H = some (.bool (decide (L.flatten = [])),H) := by
  have hj := zwm (zlt L t) L (.sl _ _) [] (by omega) (by rw [zwn]; exact h2) H
  rw [zwn] at hj
  have e:mkB [] = ⟨#[]⟩ := rfl
  rw [e] at hj
  apply optW.eq
  rw [zad zCp rfl (by simp [zqZ]),zab]
  simp only [zlt] at hj ⊢
  simp [zqZ,zzl,hj]
theorem zC6 (a:List UInt8) (ha:a.length ≤ 1048576) (H:GH):ecall T zf3 [.sl 1 [.str (mkB a)] .exact] H = some (.bool (zaC a),H) := by
  have := zm3 [a] .exact (by simp) (by simp; omega) H
  simpa [zlt,zb7] using this
theorem zC7 (a b:List UInt8) (ha:a.length ≤ 1048576) (hb:b.length ≤ 1048576) (H:GH):ecall T zf3 [.sl 1 [.str (mkB a),.str (mkB b)] .exact] H = some (.bool (zaC a && zaC b),H) := by
  have := zm3 [a,b] .exact (by simp) (by simp; omega) H
  simpa [zlt,zb7] using this
theorem zC8 (a b c:List UInt8) (ha:a.length ≤ 1048576) (hb:b.length ≤ 1048576) (hc:c.length ≤ 1048576) (H:GH):ecall T zf3 [.sl 1 [.str (mkB a),.str (mkB b),.str (mkB c)] .exact] H = some (.bool (zaC a && (zaC b && zaC c)),H) := by
  have := zm3 [a,b,c] .exact (by simp) (by simp; omega) H
  simpa [zlt,zb7] using this
theorem zC9 (a b c d:List UInt8) (ha:a.length ≤ 1048576) (hb:b.length ≤ 1048576) (hc:c.length ≤ 1048576) (hd:d.length ≤ 1048576) (H:GH):ecall T zf3 [.sl 1 [.str (mkB a),.str (mkB b),.str (mkB c),.str (mkB d)] .exact] H = some (.bool (zaC a && (zaC b && (zaC c && zaC d))),H) := by
  have := zm3 [a,b,c,d] .exact (by simp) (by simp; omega) H
  simpa [zlt,zb7] using this
theorem zDa (a:List UInt8) (ha:a.length ≤ 1048576) (H:GH):ecall T zjd [.sl 1 [.str (mkB a)] .exact] H = some (.bool (decide (a = [])),H) := by
  have := zjc [a] .exact (by simp) (by simp; omega) H
  simpa [zlt,zb7] using this
theorem zDb (a b:List UInt8) (ha:a.length ≤ 1048576) (hb:b.length ≤ 1048576) (H:GH):ecall T zjd [.sl 1 [.str (mkB a),.str (mkB b)] .exact] H = some (.bool (decide (a = [] ∧ b = [])),H) := by
  have := zjc [a,b] .exact (by simp) (by simp; omega) H
  simpa [zlt,zb7] using this
theorem zDc (a b c:List UInt8) (ha:a.length ≤ 1048576) (hb:b.length ≤ 1048576) (hc:c.length ≤ 1048576) (H:GH):ecall T zjd [.sl 1 [.str (mkB a),.str (mkB b),.str (mkB c)] .exact] H = some (.bool (decide (a = [] ∧ b = [] ∧ c = [])),H) := by
  have := zjc [a,b,c] .exact (by simp) (by simp; omega) H
  simpa [zlt,zb7] using this
theorem znM (k:Int) (a b c d:List UInt8) (ha:a.length ≤ 1048576) (hb:b.length ≤ 1048576) (hc:c.length ≤ 1048576) (hd:d.length ≤ 1048576) (H:GH) :
    ecall T zui [.agg [.int .i64 k,.str (mkB a),.str (mkB b),.str (mkB c),.str (mkB d)]] H = some (.bool (zbq k a b c d),H) := by
  apply optW.eq
  rw [zad zCn rfl (by simp [zfm]),zab]
  by_cases h1:k = 1
  · have n1 := zC6 a ha H
    have m1 := zDc b c d hb hc hd H
    cases hx:zaC a <;> rw [hx] at n1
    · simp [zfm,zhg,h1,n1,zbq,hx,zan]
    · simp [zfm,zhg,h1,n1,m1,zbq,hx,zan]
  · by_cases h24:k = 2 ∨ k = 4
    · have n1 := zC7 a d ha hd H
      have m1 := zDb b c hb hc H
      rcases h24 with h2 | h2
      · cases hx:(zaC a && zaC d) <;> rw [hx] at n1
        · simp [zfm,zhg,h2,n1,zbq,hx,zan]
        · simp [zfm,zhg,h2,n1,m1,zbq,hx,zan]
      · cases hx:(zaC a && zaC d) <;> rw [hx] at n1
        · simp [zfm,zhg,h2,n1,zbq,hx,zan]
        · simp [zfm,zhg,h2,n1,m1,zbq,hx,zan]
    · have h2:¬ k = 2 := fun h => h24 (.inl h)
      have h4:¬ k = 4 := fun h => h24 (.inr h)
      by_cases h3:k = 3
      · have n1 := zC8 a b c ha hb hc H
        have m1 := zDa d hd H
        rw [← Bool.and_assoc] at n1
        cases hx:(zaC a && zaC b && zaC c) <;> rw [hx] at n1
        · simp [zfm,zhg,h3,n1,zbq,hx,zan]
        · simp [zfm,zhg,h3,n1,m1,zbq,hx,zan]
      · by_cases h5:k = 5
        · have n1 := zC9 a b c d ha hb hc hd H
          simp [zfm,zhg,h5,n1,zbq,zan,Bool.and_assoc]
        · simp [zfm,zhg,h1,h2,h3,h4,h5,zbq]
theorem zdU (a:List UInt8) (ha:a.length ≤ 2000000) (H:GH):ecall T zgL [.str (mkB a)] H = some (.bool (zaC a),H) := by
  have := zfU (mkB a) (by rw [zjV]; omega) H
  rwa [zbu] at this
theorem ztL (k:Int) (a b c d:List UInt8) (ha:a.length ≤ 1048576) (hb:b.length ≤ 1048576) (hc:c.length ≤ 1048576) (hd:d.length ≤ 1048576) (H:GH) :
    ecall T zuf [.agg [.int .i64 k,.str (mkB a),.str (mkB b),.str (mkB c),.str (mkB d)]] H = some (.bool (zbq k a b c d),H) := by
  have n1 := zdU a (by omega) H
  have n2 := zdU b (by omega) H
  have n3 := zdU c (by omega) H
  have n4 := zdU d (by omega) H
  have n0 := zdU [] (by simp) H
  rw [zsV] at n0
  apply optW.eq
  rw [zad zCj rfl (by simp [zd6]),zab]
  by_cases h1:k = 1
  · cases hx:zaC a <;> rw [hx] at n1
    · simp [zd6,zfk,h1,n1,n2,n3,n4,zbq,hx]
    · by_cases e2:b = [] <;> by_cases e3:c = [] <;> simp [zd6,zfk,h1,n0,n1,n2,n3,n4,zbq,hx,e2,e3]
  · by_cases h24:k = 2 ∨ k = 4
    · rcases h24 with h2 | h2
      · cases hx:zaC a <;> rw [hx] at n1
        · simp [zd6,zfk,h2,n1,n2,n3,n4,zbq,hx]
        · by_cases e2:b = [] <;> by_cases e3:c = [] <;> simp [zd6,zfk,h2,n0,n1,n2,n3,n4,zbq,hx,e2,e3]
      · cases hx:zaC a <;> rw [hx] at n1
        · simp [zd6,zfk,h2,n1,n2,n3,n4,zbq,hx]
        · by_cases e2:b = [] <;> by_cases e3:c = [] <;> simp [zd6,zfk,h2,n0,n1,n2,n3,n4,zbq,hx,e2,e3]
    · have h2:¬ k = 2 := fun h => h24 (.inl h)
      have h4:¬ k = 4 := fun h => h24 (.inr h)
      by_cases h3:k = 3
      · cases hx:zaC a <;> rw [hx] at n1
        · simp [zd6,zfk,h3,n1,n2,n3,n4,zbq,hx]
        · cases hy:zaC b <;> rw [hy] at n2
          · simp [zd6,zfk,h3,n1,n2,n3,n4,zbq,hx,hy]
          · cases hz:zaC c <;> rw [hz] at n3 <;> simp [zd6,zfk,h3,n1,n2,n3,n4,zbq,hx,hy,hz]
      · by_cases h5:k = 5
        · cases hx:zaC a <;> rw [hx] at n1
          · simp [zd6,zfk,h5,n1,n2,n3,n4,zbq,hx]
          · cases hy:zaC b <;> rw [hy] at n2
            · simp [zd6,zfk,h5,n1,n2,n3,n4,zbq,hx,hy]
            · cases hz:zaC c <;> rw [hz] at n3 <;> simp [zd6,zfk,h5,n1,n2,n3,n4,zbq,hx,hy,hz]
        · simp [zd6,zfk,h1,h2,h3,h4,h5,n1,n2,n3,n4,zbq]
end Go.Proofs.YtchjbidfmhmmhaaGreatDoor
namespace Go.Proofs.YtchjbidfmhmmhaaGreatDoor
open Go.Sh
set_option maxRecDepth 100000
abbrev zh9 (n:Int):GV := .int .i64 n
def zfW (r c:Int):Bool := decide (0 ≤ r ∧ r < 16 ∧ 1 ≤ c ∧ c ≤ 1048576)
theorem ziC (r c:Int) (H:GH):ecall T zqb [.agg [.int .i64 r,.int .i64 c]] H = some (.bool (zfW r c),H) := by
  apply optW.eq
  rw [zad zCa rfl (by simp [zlS]),zab]
  by_cases h1:0 ≤ r
  · by_cases h2:r < 16
    · by_cases h3:1 ≤ c <;> simp [zlS,zun,zfW,h1,h2,h3]
    · simp [zlS,zun,zfW,h1,h2]
  · simp [zlS,zun,zfW,h1]
def znN (v:List Int):GV := .agg (v.map fun n => .int .i64 n)
def zc3 (v:List Int) (r:Int):Int := v.getD r.toNat 0
theorem zpX {r:Int} (h0:0 ≤ r) (h1:r < 16):gIx 16 (.int .i64 r) = some r.toNat := by
  simp only [gIx]; rw [if_pos ⟨h0,by omega⟩]
theorem zm4 {v:List Int} (hv:v.length = 16) {r:Int} (h0:0 ≤ r) (h1:r < 16):(v.map fun n => GV.int .i64 n)[r.toNat]? = some (.int .i64 (zc3 v r)) := by
  have hlt:r.toNat < v.length := by omega
  simp [zc3,hlt]
def zb1 (v:List Int) (r c:Int):Bool := zfW r c && decide (c ≤ zc3 v r)
def zj9 (v:List Int) (r c:Int):Bool := zfW r c && decide (zc3 v r = c - 1)
theorem zka (v:List Int) (hv:v.length = 16) (r c:Int) (H:GH):ecall T zt1 [znN v,.agg [.int .i64 r,.int .i64 c]] H = some (.bool (zb1 v r c),H) := by
  apply optW.eq
  rw [zad zBS rfl (by simp [zn4]),zab]
  have hd := fun H => ziC r c H
  unfold zb1
  cases hb:zfW r c with
  | false =>
    rw [hb] at hd
    simp [zn4,zwv,znN,hd]
  | true =>
    rw [hb] at hd
    simp only [zfW,decide_eq_true_eq] at hb
    have hi := zpX hb.1 hb.2.1
    have ha := zm4 hv hb.1 hb.2.1
    simp only [List.getElem?_map,Option.map_eq_some_iff] at ha
    obtain ⟨x,hx,he⟩ := ha
    injection he with _ he
    simp [zn4,zwv,znN,hd,hi,hx,he]
theorem zlC (v:List Int) (hv:v.length = 16) (r c:Int) (H:GH):ecall T zt8 [znN v,.agg [.int .i64 r,.int .i64 c]] H = some (.bool (zj9 v r c),H) := by
  apply optW.eq
  rw [zad zB8 rfl (by simp [zn6]),zab]
  have hd := fun H => ziC r c H
  unfold zj9
  cases hb:zfW r c with
  | false =>
    rw [hb] at hd
    simp [zn6,zwy,znN,hd]
  | true =>
    rw [hb] at hd
    simp only [zfW,decide_eq_true_eq] at hb
    have hi := zpX hb.1 hb.2.1
    have ha := zm4 hv hb.1 hb.2.1
    have hw:IntKind.i64.wrap (c - 1) = c - 1 := zaq (by omega) (by omega)
    simp only [List.getElem?_map,Option.map_eq_some_iff] at ha
    obtain ⟨x,hx,he⟩ := ha
    injection he with _ he
    simp [zn6,zwy,znN,hd,hi,hx,he,hw]
def zv0 (v:List Int):Bool := v.all fun n => decide (0 ≤ n ∧ n ≤ 1048576)
theorem zkb (v:List Int) (hv:v.length = 16) (H:GH):ecall T zt9 [znN v] H = some (.bool (zv0 v),H) := by
  apply optW.eq
  rw [zad zB9 rfl (by simp [zqP]),zab]
  simp only [zqP,zzb,znN]
  have hl:(v.map fun n => GV.int .i64 n).length = 16 := by simp [hv]
  simp [hl,hv]
  rw [zaw,zao]
  refine zei (T := T) (n := 16) (A := Unit) (fun _ _ => [(5,znN v)]) (fun i _ _ H' => H' = H ∧ (v.take i).all (fun n => decide (0 ≤ n ∧ n ≤ 1048576)) = true) (c := 7) (b := 0) (I := 6) (d := 15) rfl (by omega) (by decide) rfl (by simp) ?_ ?_ 0 () _ _ H (by omega) ⟨rfl,by simp⟩ (by simp [znN]; exact List.take_of_length_le (by simp [hv])) (.refl _ _ _) (by simp)
  · intro i a l g H' hi ⟨hH,hall⟩ hh hf hI
    subst hH
    simp only [zaA,zaI,and_true,znN] at hh
    have hlt:i < v.length := by omega
    have hix:gIx 16 (.int .i64 (i:Int)) = some i := by simp only [gIx]; rw [if_pos (by omega)]; simp
    have hg:v[i]? = some v[i] := List.getElem?_eq_getElem hlt
    have htake:v.take (i + 1) = v.take i ++ [v[i]] := by rw [List.take_add_one,hg]; rfl
    generalize v[i] = n at hg htake
    by_cases h0:n < 0
    · have hb:zv0 v = false := by
        rw [Bool.eq_false_iff]; intro h
        have := List.all_eq_true.1 h n (List.mem_of_getElem? hg)
        simp at this; omega
      simp [hh,hI,hix,hg,h0,hb]
    · by_cases h1:1048576 < n
      · have hb:zv0 v = false := by
          rw [Bool.eq_false_iff]; intro h
          have := List.all_eq_true.1 h n (List.mem_of_getElem? hg)
          simp at this; omega
        simp [hh,hI,hix,hg,h0,h1,hb]
      · have hall':(v.take (i + 1)).all (fun n => decide (0 ≤ n ∧ n ≤ 1048576)) = true := by
          rw [htake,List.all_append,hall]; simp; omega
        simp [hh,hI,hix,hg,h0,h1]
        exact fun _ => ⟨by simpa using hall',rfl⟩
  · intro a l g H' ⟨hH,hall⟩ hh hf
    subst hH
    have hb:zv0 v = true := by rw [← hv,List.take_length] at hall; exact hall
    simp [hb]
end Go.Proofs.YtchjbidfmhmmhaaGreatDoor
namespace Go.Proofs.YtchjbidfmhmmhaaGreatDoor
open Go.Sh
set_option maxRecDepth 100000
theorem isNaN_int (a:Int) (H:GH):ecall T f_x3 [.int .i64 a] H = some (.bool false,H) := by
  apply optW.eq
  rw [zad T_x3 rfl (by simp [F_x3]),zab]
  simp [F_x3,b_x3]
theorem isNaN_str (a:ByteArray) (H:GH):ecall T f_x4 [.str a] H = some (.bool false,H) := by
  apply optW.eq
  rw [zad T_x4 rfl (by simp [F_x4]),zab]
  simp [F_x4,b_x4]
theorem cmp_int (a b:Int) (H:GH):ecall T f_x0 [.int .i64 a,.int .i64 b] H = some (.int .i64 (zfe a b),H) := by
  apply optW.eq
  rw [zad T_x0 rfl (by simp [F_x0]),zab]
  by_cases h:a < b
  · simp [F_x0,b_x0,isNaN_int,zfe,h]
  · by_cases h':b < a <;> simp [F_x0,b_x0,isNaN_int,zfe,h,h']
theorem cmp_str (a b:ByteArray) (H:GH):ecall T f_x1 [.str a,.str b] H = some (.int .i64 (zyk a b),H) := by
  apply optW.eq
  rw [zad T_x1 rfl (by simp [F_x1]),zab]
  unfold zyk
  cases h:Op.bytesLess a.toList b.toList
  · by_cases h':a.toList = b.toList
    · have h2 := h
      rw [h'] at h2
      simp [F_x1,b_x1,isNaN_str,h2,h',zj2]
    · have h3:(a.toList == b.toList) = false := beq_eq_false_iff_ne.2 h'
      simp [F_x1,b_x1,isNaN_str,h,h',h3,zj2]
  · simp [F_x1,b_x1,isNaN_str,h,zj2]
theorem cmp_lex (a b:List UInt8) (H:GH):ecall T f_x1 [.str (mkB a),.str (mkB b)] H = some (.int .i64 (zcf a b),H) := by
  have := cmp_str (mkB a) (mkB b) H
  rwa [znC,zbu,zbu] at this
theorem cmp_or2 (x y:Int) (H:GH):ecall T f_x2 [.sl 1 [.int .i64 x,.int .i64 y] .exact] H = some (.int .i64 (orL [x,y]),H) := by
  apply optW.eq
  rw [zad T_x2 rfl (by simp [F_x2]),zab]
  have w1:IntKind.i64.wrap 1 = 1 := by decide
  have w2:IntKind.i64.wrap 2 = 2 := by decide
  by_cases hx:x = 0
  · by_cases hy:y = 0 <;> simp [F_x2,b_x2,hx,hy,zak,L0_x2,gIx,w1,w2,orL]
  · simp [F_x2,b_x2,hx,zak,L0_x2,gIx,w1,w2,orL]
theorem cmp_or5 (x y z u v:Int) (H:GH):ecall T f_x2 [.sl 1 [.int .i64 x,.int .i64 y,.int .i64 z,.int .i64 u,.int .i64 v] .exact] H = some (.int .i64 (orL [x,y,z,u,v]),H) := by
  apply optW.eq
  rw [zad T_x2 rfl (by simp [F_x2]),zab]
  have w1:IntKind.i64.wrap 1 = 1 := by decide
  have w2:IntKind.i64.wrap 2 = 2 := by decide
  have w3:IntKind.i64.wrap 3 = 3 := by decide
  have w4:IntKind.i64.wrap 4 = 4 := by decide
  have w5:IntKind.i64.wrap 5 = 5 := by decide
  by_cases hx:x = 0
  · by_cases hy:y = 0
    · by_cases hz:z = 0
      · by_cases hu:u = 0
        · by_cases hv:v = 0 <;> simp [F_x2,b_x2,hx,hy,hz,hu,hv,zak,L0_x2,gIx,w1,w2,w3,w4,w5,orL]
        · simp [F_x2,b_x2,hx,hy,hz,hu,zak,L0_x2,gIx,w1,w2,w3,w4,w5,orL]
      · simp [F_x2,b_x2,hx,hy,hz,zak,L0_x2,gIx,w1,w2,w3,w4,w5,orL]
    · simp [F_x2,b_x2,hx,hy,zak,L0_x2,gIx,w1,w2,w3,w4,w5,orL]
  · simp [F_x2,b_x2,hx,zak,L0_x2,gIx,w1,w2,w3,w4,w5,orL]
theorem store_Order (x y:El) (H:GH):ecall T f_x62 [.agg (elC x),.agg (elC y)] H = some (.int .i64 (zdj x y),H) := by
  apply optW.eq
  rw [zad T_x62 rfl (by simp [F_x62]),zab]
  simp [F_x62,b_x62,elC,cmp_int,cmp_lex,zan,cmp_or5,zdj]
theorem zg8 (x y:Ent) (H:GH):ecall T zwp [.agg (zcP x),.agg (zcP y)] H = some (.int .i64 (zdm x y),H) := by
  apply optW.eq
  rw [zad zBU rfl (by simp [zqE]),zab]
  simp [zqE,zyX,zcP,cmp_int,zan,cmp_or2,zdm]
theorem zdo (a b:List UInt8):zj2 .lss (mkB a) (mkB b) = some (.bool (decide (zcf a b < 0))) := by
  unfold zj2
  congr 2
  rw [ByteArray.toList_eq,ByteArray.toList_eq,zbu,zbu,← zjW]
  cases h:Op.bytesLess a b
  · by_cases h2:a = b <;> simp [h2]
  · simp
end Go.Proofs.YtchjbidfmhmmhaaGreatDoor
namespace Go.Proofs.YtchjbidfmhmmhaaGreatDoor
open Go.Sh
set_option maxHeartbeats 4000000
set_option maxRecDepth 100000
theorem ztM (x y:El) (H:GH):ecall T zud [.agg (elC x),.agg (elC y)] H = some (.bool (zmR x y),H) := by
  apply optW.eq
  rw [zad zCh rfl (by simp [zii]),zab]
  unfold zmR zdj
  by_cases h1:x.k = y.k
  · have e1 := (zcC _ _).2 h1
    by_cases h2:x.a = y.a
    · have e2 := (zaS _ _).2 h2
      by_cases h3:x.b = y.b
      · have e3 := (zaS _ _).2 h3
        by_cases h4:x.c = y.c
        · have e4 := (zaS _ _).2 h4
          have e6:zfe y.k y.k = 0 := (zcC _ _).2 rfl
          by_cases h5:x.d = y.d
          · simp [zii,zlU,elC,h1,h2,h3,h4,h5,zdo,orL,zco,e6]
          · have e5:zcf x.d y.d ≠ 0 := fun h => h5 ((zaS _ _).1 h)
            simp [zii,zlU,elC,h1,h2,h3,h4,zdo,orL,zco,e5,e6]
        · have e4:zcf x.c y.c ≠ 0 := fun h => h4 ((zaS _ _).1 h)
          have e6:zfe y.k y.k = 0 := (zcC _ _).2 rfl
          simp [zii,zlU,elC,h1,h2,h3,h4,zdo,orL,zco,e4,e6]
      · have e3:zcf x.b y.b ≠ 0 := fun h => h3 ((zaS _ _).1 h)
        have e6:zfe y.k y.k = 0 := (zcC _ _).2 rfl
        simp [zii,zlU,elC,h1,h2,h3,zdo,orL,zco,e3,e6]
    · have e2:zcf x.a y.a ≠ 0 := fun h => h2 ((zaS _ _).1 h)
      have e6:zfe y.k y.k = 0 := (zcC _ _).2 rfl
      simp [zii,zlU,elC,h1,h2,zdo,orL,e2,e6]
  · have e1:zfe x.k y.k ≠ 0 := fun h => h1 ((zcC _ _).1 h)
    simp [zii,zlU,elC,h1,orL,e1,zvN]
end Go.Proofs.YtchjbidfmhmmhaaGreatDoor
