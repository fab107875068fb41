/- Own work: the shadow machine and what it shows, part El. -/
import Derived.Test.YthmplnbogdfajaaGreatDoorVa
import Derived.Test.YthmplnbogdfajaaGreatDoorShF
import Derived.Test.YthmplnbogdfajaaGreatDoorVp
import Derived.Test.YthmplnbogdfajaaGreatDoorLib
import Derived.Test.YthmplnbogdfajaaGreatDoorShH
set_option linter.all false
namespace Go.Proofs.YthmplnbogdfajaaGreatDoor
open Go.Sh
set_option maxRecDepth 100000
theorem elemsUnbox {sz : Nat} {s : GV} {xs : List GV} (h : Elems sz s xs) (t : Nat) : unbox t s = s := by cases h <;> rfl
def strG (l : List UInt8) : GV := .str (mkB l)
def rowG (L : List (List UInt8)) (t : Tag) : GV := .sl 1 (L.map strG) t
theorem strs_strG : ∀ L : List (List UInt8), strsOf (L.map strG) = some (L.map mkB)
  | [] => rfl
  | l :: L => by simp [strsOf, strG, strs_strG L]
theorem join_ok (v : GV) (L : List (List UInt8)) (hv : Elems 1 v (L.map strG)) (sep : List UInt8) (h1 : L.length ≤ 1048576) (h2 : (Lib.join L sep).length ≤ 100000000) (H : GH) : ecall T f_x73 [v, .str (mkB sep)] H = some (.str (mkB (Lib.join L sep)), H) := by
  rw [ecall_lib T_x73 (by decide) (by simp [F_x73])]
  generalize hxs : L.map strG = xs at hv
  cases hv with
  | nil =>
    have : L = [] := by simpa using hxs
    subst this
    rfl
  | sl xs t =>
    subst hxs
    have e : (L.map mkB).map (fun s : ByteArray => s.data.toList) = L := by simp [List.map_map, Function.comp_def]
    simp only [libH, libP, lJoin, F_x73, strs_strG, Option.bind_some, mkB_data, List.length_map]
    have hc : L.length ≤ 140737488355328 ∧ (Lib.join L sep).length ≤ 140737488355328 := ⟨by omega, by omega⟩
    rw [e, if_pos hc]
    rfl
theorem value_Name' (a : List UInt8) (ha : a.length ≤ 2000000) (H : GH) : ecall T f_x78 [.str (mkB a)] H = some (.bool (nameL a), H) := by
  have := value_Name (mkB a) (by rw [mkB_size]; omega) H
  rwa [mkB_data] at this
theorem nms_loop (all : List (List UInt8)) (t : Tag) (hall : all.length ≤ 1000) (hsz : ∀ w ∈ all, w.length ≤ 2000000) (xs : List (List UInt8)) : ∀ (j : Nat) (_ : all.drop j = xs) (l : List GV) (g : Nat) (H : GH) (K : GExit × St → Prop)
    (_ : lget l 5 = rowG all t) (_ : lget l 6 = .int .i64 all.length) (_ : lget l 7 = .int .i64 j)
    (_ : ∀ (l' : List GV), xs.all nameL = true → K (.exit 0, ⟨⟨l', g⟩, H⟩))
    (_ : ∀ (l' : List GV), lget l' 2 = .bool false → xs.all nameL = false → K (.ret, ⟨⟨l', g⟩, H⟩)),
    optW (erun T (.loop L0_x83) ⟨⟨l, g⟩, H⟩) K := by
  induction xs with
  | nil =>
    intro j hd l g H K h5 h6 h7 he hr
    have hle : all.length ≤ j := by simpa using hd
    have hge : ¬ ((j : Int) < all.length) := by omega
    have hge' : ¬ (j < all.length) := by omega
    rw [run_loop]
    simp [L0_x83, h6, h7, hge, hge']
    exact he _ rfl
  | cons x xs ih =>
    intro j hd l g H K h5 h6 h7 he hr
    have hj : j < all.length := by
      rcases Nat.lt_or_ge j all.length with h1 | h1
      · exact h1
      · rw [List.drop_eq_nil_of_le h1] at hd; cases hd
    have hgv : all[j]? = some x := by
      have := congrArg (·[0]?) hd
      simpa using this
    have hd' : all.drop (j + 1) = xs := by
      have := congrArg List.tail hd
      simpa using this
    have hgd : ∀ h : j < all.length, all[j]'h = x := fun h => by rw [List.getElem?_eq_getElem h] at hgv; exact Option.some.inj hgv
    have hlt : (j : Int) < all.length := by omega
    have hix : gIx all.length (.int .i64 (j : Int)) = some j := by simp only [gIx]; rw [if_pos (by omega)]; simp
    have hw : IntKind.i64.wrap ((j : Int) + 1) = (j : Int) + 1 := wrap_i64' (by omega) (by omega)
    have hn := value_Name' x (hsz x (List.mem_of_getElem? hgv)) H
    simp only [rowG] at h5
    cases hx : nameL x <;> rw [hx] at hn
    · rw [run_loop, wp_seqK]
      simp [L0_x83, h5, h6, h7, hlt, hj, hix, hgv, hgd, strG, hn]
      exact hr _ (by simp) (by simp [hx])
    · rw [run_loop, wp_seqK]
      simp [L0_x83, h5, h6, h7, hlt, hj, hix, hgv, hgd, strG, hn, hw]
      refine ih (j + 1) hd' _ _ H K ?_ ?_ ?_ ?_ ?_
      · simp [h5, rowG]
      · simp [h6]
      · simp
      · intro l' e; exact he l' (by simpa [hx] using e)
      · intro l' e2 e; exact hr l' e2 (by simpa [hx] using e)
theorem nms_ok (L : List (List UInt8)) (t : Tag) (hL : L.length ≤ 1000) (hsz : ∀ w ∈ L, w.length ≤ 2000000) (H : GH) : ecall T f_x83 [rowG L t] H = some (.bool (L.all nameL), H) := by
  apply optW.eq
  rw [ecall_0 T_x83 rfl (by simp [F_x83]), wp_fin1]
  simp only [F_x83, b_x83, rowG]
  simp
  rw [wp_seqK, wp_blockK]
  refine nms_loop L t hL hsz L 0 rfl _ _ _ _ ?_ ?_ ?_ ?_ ?_
  · simp [rowG]
  · simp
  · simp
  · intro l' e
    simp
    simpa using e
  · intro l' e2 e
    simp [e2]
    simpa using e
theorem join0 : ∀ (L : List (List UInt8)), Lib.join L [] = L.flatten
  | [] => rfl
  | [x] => by simp [Lib.join_one]
  | x :: y :: L => by
    have := join0 (y :: L)
    simp only [Lib.join, List.intercalate, List.intersperse, List.flatten_cons, List.nil_append] at this ⊢
    rw [this]
theorem empty_ok (L : List (List UInt8)) (t : Tag) (h1 : L.length ≤ 1000) (h2 : L.flatten.length ≤ 100000000) (H : GH) : ecall T f_x80 [rowG L t] H = some (.bool (decide (L.flatten = [])), H) := by
  have hj := join_ok (rowG L t) L (.sl _ _) [] (by omega) (by rw [join0]; exact h2) H
  rw [join0] at hj
  have e : mkB [] = ⟨#[]⟩ := rfl
  rw [e] at hj
  apply optW.eq
  rw [ecall_0 T_x80 rfl (by simp [F_x80]), wp_fin1]
  simp only [rowG] at hj ⊢
  simp [F_x80, b_x80, hj]
theorem nms1 (a : List UInt8) (ha : a.length ≤ 1048576) (H : GH) : ecall T f_x83 [.sl 1 [.str (mkB a)] .exact] H = some (.bool (nameL a), H) := by
  have := nms_ok [a] .exact (by simp) (by simp; omega) H
  simpa [rowG, strG] using this
theorem nms2 (a b : List UInt8) (ha : a.length ≤ 1048576) (hb : b.length ≤ 1048576) (H : GH) : ecall T f_x83 [.sl 1 [.str (mkB a), .str (mkB b)] .exact] H = some (.bool (nameL a && nameL b), H) := by
  have := nms_ok [a, b] .exact (by simp) (by simp; omega) H
  simpa [rowG, strG] using this
theorem nms3 (a b c : List UInt8) (ha : a.length ≤ 1048576) (hb : b.length ≤ 1048576) (hc : c.length ≤ 1048576) (H : GH) : ecall T f_x83 [.sl 1 [.str (mkB a), .str (mkB b), .str (mkB c)] .exact] H = some (.bool (nameL a && (nameL b && nameL c)), H) := by
  have := nms_ok [a, b, c] .exact (by simp) (by simp; omega) H
  simpa [rowG, strG] using this
theorem nms4 (a b c d : List UInt8) (ha : a.length ≤ 1048576) (hb : b.length ≤ 1048576) (hc : c.length ≤ 1048576) (hd : d.length ≤ 1048576) (H : GH) : ecall T f_x83 [.sl 1 [.str (mkB a), .str (mkB b), .str (mkB c), .str (mkB d)] .exact] H = some (.bool (nameL a && (nameL b && (nameL c && nameL d))), H) := by
  have := nms_ok [a, b, c, d] .exact (by simp) (by simp; omega) H
  simpa [rowG, strG] using this
theorem emp1 (a : List UInt8) (ha : a.length ≤ 1048576) (H : GH) : ecall T f_x80 [.sl 1 [.str (mkB a)] .exact] H = some (.bool (decide (a = [])), H) := by
  have := empty_ok [a] .exact (by simp) (by simp; omega) H
  simpa [rowG, strG] using this
theorem emp2 (a b : List UInt8) (ha : a.length ≤ 1048576) (hb : b.length ≤ 1048576) (H : GH) : ecall T f_x80 [.sl 1 [.str (mkB a), .str (mkB b)] .exact] H = some (.bool (decide (a = [] ∧ b = [])), H) := by
  have := empty_ok [a, b] .exact (by simp) (by simp; omega) H
  simpa [rowG, strG] using this
theorem emp3 (a b c : List UInt8) (ha : a.length ≤ 1048576) (hb : b.length ≤ 1048576) (hc : c.length ≤ 1048576) (H : GH) : ecall T f_x80 [.sl 1 [.str (mkB a), .str (mkB b), .str (mkB c)] .exact] H = some (.bool (decide (a = [] ∧ b = [] ∧ c = [])), H) := by
  have := empty_ok [a, b, c] .exact (by simp) (by simp; omega) H
  simpa [rowG, strG] using this
theorem value_Elem (k : Int) (a b c d : List UInt8) (ha : a.length ≤ 1048576) (hb : b.length ≤ 1048576) (hc : c.length ≤ 1048576) (hd : d.length ≤ 1048576) (H : GH) :
    ecall T f_x76 [.agg [.int .i64 k, .str (mkB a), .str (mkB b), .str (mkB c), .str (mkB d)]] H = some (.bool (elemV k a b c d), H) := by
  apply optW.eq
  rw [ecall_0 T_x76 rfl (by simp [F_x76]), wp_fin1]
  by_cases h1 : k = 1
  · have n1 := nms1 a ha H
    have m1 := emp3 b c d hb hc hd H
    cases hx : nameL a <;> rw [hx] at n1
    · simp [F_x76, b_x76, h1, n1, elemV, hx, gSetAll]
    · simp [F_x76, b_x76, h1, n1, m1, elemV, hx, gSetAll]
  · by_cases h24 : k = 2 ∨ k = 4
    · have n1 := nms2 a d ha hd H
      have m1 := emp2 b c hb hc H
      rcases h24 with h2 | h2
      · cases hx : (nameL a && nameL d) <;> rw [hx] at n1
        · simp [F_x76, b_x76, h2, n1, elemV, hx, gSetAll]
        · simp [F_x76, b_x76, h2, n1, m1, elemV, hx, gSetAll]
      · cases hx : (nameL a && nameL d) <;> rw [hx] at n1
        · simp [F_x76, b_x76, h2, n1, elemV, hx, gSetAll]
        · simp [F_x76, b_x76, h2, n1, m1, elemV, hx, gSetAll]
    · have h2 : ¬ k = 2 := fun h => h24 (.inl h)
      have h4 : ¬ k = 4 := fun h => h24 (.inr h)
      by_cases h3 : k = 3
      · have n1 := nms3 a b c ha hb hc H
        have m1 := emp1 d hd H
        rw [← Bool.and_assoc] at n1
        cases hx : (nameL a && nameL b && nameL c) <;> rw [hx] at n1
        · simp [F_x76, b_x76, h3, n1, elemV, hx, gSetAll]
        · simp [F_x76, b_x76, h3, n1, m1, elemV, hx, gSetAll]
      · by_cases h5 : k = 5
        · have n1 := nms4 a b c d ha hb hc hd H
          simp [F_x76, b_x76, h5, n1, elemV, gSetAll, Bool.and_assoc]
        · simp [F_x76, b_x76, h1, h2, h3, h4, h5, elemV]
theorem ref_Name' (a : List UInt8) (ha : a.length ≤ 2000000) (H : GH) : ecall T f_x18 [.str (mkB a)] H = some (.bool (nameL a), H) := by
  have := ref_Name (mkB a) (by rw [mkB_size]; omega) H
  rwa [mkB_data] at this
theorem ref_Elem (k : Int) (a b c d : List UInt8) (ha : a.length ≤ 1048576) (hb : b.length ≤ 1048576) (hc : c.length ≤ 1048576) (hd : d.length ≤ 1048576) (H : GH) :
    ecall T f_x16 [.agg [.int .i64 k, .str (mkB a), .str (mkB b), .str (mkB c), .str (mkB d)]] H = some (.bool (elemV k a b c d), H) := by
  have n1 := ref_Name' a (by omega) H
  have n2 := ref_Name' b (by omega) H
  have n3 := ref_Name' c (by omega) H
  have n4 := ref_Name' d (by omega) H
  have n0 := ref_Name' [] (by simp) H
  rw [mkB_empty] at n0
  apply optW.eq
  rw [ecall_0 T_x16 rfl (by simp [F_x16]), wp_fin1]
  by_cases h1 : k = 1
  · cases hx : nameL a <;> rw [hx] at n1
    · simp [F_x16, b_x16, h1, n1, n2, n3, n4, elemV, hx]
    · by_cases e2 : b = [] <;> by_cases e3 : c = [] <;> simp [F_x16, b_x16, h1, n0, n1, n2, n3, n4, elemV, hx, e2, e3]
  · by_cases h24 : k = 2 ∨ k = 4
    · rcases h24 with h2 | h2
      · cases hx : nameL a <;> rw [hx] at n1
        · simp [F_x16, b_x16, h2, n1, n2, n3, n4, elemV, hx]
        · by_cases e2 : b = [] <;> by_cases e3 : c = [] <;> simp [F_x16, b_x16, h2, n0, n1, n2, n3, n4, elemV, hx, e2, e3]
      · cases hx : nameL a <;> rw [hx] at n1
        · simp [F_x16, b_x16, h2, n1, n2, n3, n4, elemV, hx]
        · by_cases e2 : b = [] <;> by_cases e3 : c = [] <;> simp [F_x16, b_x16, h2, n0, n1, n2, n3, n4, elemV, hx, e2, e3]
    · have h2 : ¬ k = 2 := fun h => h24 (.inl h)
      have h4 : ¬ k = 4 := fun h => h24 (.inr h)
      by_cases h3 : k = 3
      · cases hx : nameL a <;> rw [hx] at n1
        · simp [F_x16, b_x16, h3, n1, n2, n3, n4, elemV, hx]
        · cases hy : nameL b <;> rw [hy] at n2
          · simp [F_x16, b_x16, h3, n1, n2, n3, n4, elemV, hx, hy]
          · cases hz : nameL c <;> rw [hz] at n3 <;> simp [F_x16, b_x16, h3, n1, n2, n3, n4, elemV, hx, hy, hz]
      · by_cases h5 : k = 5
        · cases hx : nameL a <;> rw [hx] at n1
          · simp [F_x16, b_x16, h5, n1, n2, n3, n4, elemV, hx]
          · cases hy : nameL b <;> rw [hy] at n2
            · simp [F_x16, b_x16, h5, n1, n2, n3, n4, elemV, hx, hy]
            · cases hz : nameL c <;> rw [hz] at n3 <;> simp [F_x16, b_x16, h5, n1, n2, n3, n4, elemV, hx, hy, hz]
        · simp [F_x16, b_x16, h1, h2, h3, h4, h5, n1, n2, n3, n4, elemV]
end Go.Proofs.YthmplnbogdfajaaGreatDoor
namespace Go.Proofs.YthmplnbogdfajaaGreatDoor
open Go.Sh
set_option maxRecDepth 100000
abbrev intG (n : Int) : GV := .int .i64 n
def dotB (r c : Int) : Bool := decide (0 ≤ r ∧ r < 16 ∧ 1 ≤ c ∧ c ≤ 1048576)
theorem vector_Dot (r c : Int) (H : GH) : ecall T f_x85 [.agg [.int .i64 r, .int .i64 c]] H = some (.bool (dotB r c), H) := by
  apply optW.eq
  rw [ecall_0 T_x85 rfl (by simp [F_x85]), wp_fin1]
  by_cases h1 : 0 ≤ r
  · by_cases h2 : r < 16
    · by_cases h3 : 1 ≤ c <;> simp [F_x85, b_x85, dotB, h1, h2, h3]
    · simp [F_x85, b_x85, dotB, h1, h2]
  · simp [F_x85, b_x85, dotB, h1]
def vecG (v : List Int) : GV := .agg (v.map fun n => .int .i64 n)
def at16 (v : List Int) (r : Int) : Int := v.getD r.toNat 0
theorem gIx16 {r : Int} (h0 : 0 ≤ r) (h1 : r < 16) : gIx 16 (.int .i64 r) = some r.toNat := by
  simp only [gIx]; rw [if_pos ⟨h0, by omega⟩]
theorem vec_at {v : List Int} (hv : v.length = 16) {r : Int} (h0 : 0 ≤ r) (h1 : r < 16) : (v.map fun n => GV.int .i64 n)[r.toNat]? = some (.int .i64 (at16 v r)) := by
  have hlt : r.toNat < v.length := by omega
  simp [at16, hlt]
def knowsB (v : List Int) (r c : Int) : Bool := dotB r c && decide (c ≤ at16 v r)
def nextB (v : List Int) (r c : Int) : Bool := dotB r c && decide (at16 v r = c - 1)
theorem vector_Knows (v : List Int) (hv : v.length = 16) (r c : Int) (H : GH) : ecall T f_x86 [vecG v, .agg [.int .i64 r, .int .i64 c]] H = some (.bool (knowsB v r c), H) := by
  apply optW.eq
  rw [ecall_0 T_x86 rfl (by simp [F_x86]), wp_fin1]
  have hd := fun H => vector_Dot r c H
  unfold knowsB
  cases hb : dotB r c with
  | false =>
    rw [hb] at hd
    simp [F_x86, b_x86, vecG, hd]
  | true =>
    rw [hb] at hd
    simp only [dotB, decide_eq_true_eq] at hb
    have hi := gIx16 hb.1 hb.2.1
    have ha := vec_at hv hb.1 hb.2.1
    simp only [List.getElem?_map, Option.map_eq_some_iff] at ha
    obtain ⟨x, hx, he⟩ := ha
    injection he with _ he
    simp [F_x86, b_x86, vecG, hd, hi, hx, he]
theorem vector_Next (v : List Int) (hv : v.length = 16) (r c : Int) (H : GH) : ecall T f_x87 [vecG v, .agg [.int .i64 r, .int .i64 c]] H = some (.bool (nextB v r c), H) := by
  apply optW.eq
  rw [ecall_0 T_x87 rfl (by simp [F_x87]), wp_fin1]
  have hd := fun H => vector_Dot r c H
  unfold nextB
  cases hb : dotB r c with
  | false =>
    rw [hb] at hd
    simp [F_x87, b_x87, vecG, hd]
  | true =>
    rw [hb] at hd
    simp only [dotB, decide_eq_true_eq] at hb
    have hi := gIx16 hb.1 hb.2.1
    have ha := vec_at hv hb.1 hb.2.1
    have hw : IntKind.i64.wrap (c - 1) = c - 1 := wrap_i64' (by omega) (by omega)
    simp only [List.getElem?_map, Option.map_eq_some_iff] at ha
    obtain ⟨x, hx, he⟩ := ha
    injection he with _ he
    simp [F_x87, b_x87, vecG, hd, hi, hx, he, hw]
def vecB (v : List Int) : Bool := v.all fun n => decide (0 ≤ n ∧ n ≤ 1048576)
theorem vector_Right (v : List Int) (hv : v.length = 16) (H : GH) : ecall T f_x88 [vecG v] H = some (.bool (vecB v), H) := by
  apply optW.eq
  rw [ecall_0 T_x88 rfl (by simp [F_x88]), wp_fin1]
  simp only [F_x88, b_x88, vecG]
  have hl : (v.map fun n => GV.int .i64 n).length = 16 := by simp [hv]
  simp [hl, hv]
  rw [wp_seqK, wp_blockK]
  refine range_loop_c (T := T) (n := 16) (A := Unit) (fun _ _ => [(5, vecG v)]) (fun i _ _ H' => H' = H ∧ (v.take i).all (fun n => decide (0 ≤ n ∧ n ≤ 1048576)) = true) (c := 7) (b := 0) (I := 6) (d := 15) rfl (by omega) (by decide) rfl (by simp) ?_ ?_ 0 () _ _ H (by omega) ⟨rfl, by simp⟩ (by simp [vecG]; exact List.take_of_length_le (by simp [hv])) (.refl _ _ _) (by simp)
  · intro i a l g H' hi ⟨hH, hall⟩ hh hf hI
    subst hH
    simp only [Holds_cons, Holds_nil, and_true, vecG] at hh
    have hlt : i < v.length := by omega
    have hix : gIx 16 (.int .i64 (i : Int)) = some i := by simp only [gIx]; rw [if_pos (by omega)]; simp
    have hg : v[i]? = some v[i] := List.getElem?_eq_getElem hlt
    have htake : v.take (i + 1) = v.take i ++ [v[i]] := by rw [List.take_add_one, hg]; rfl
    generalize v[i] = n at hg htake
    by_cases h0 : n < 0
    · have hb : vecB v = false := by
        rw [Bool.eq_false_iff]; intro h
        have := List.all_eq_true.1 h n (List.mem_of_getElem? hg)
        simp at this; omega
      simp [hh, hI, hix, hg, h0, hb]
    · by_cases h1 : 1048576 < n
      · have hb : vecB v = false := by
          rw [Bool.eq_false_iff]; intro h
          have := List.all_eq_true.1 h n (List.mem_of_getElem? hg)
          simp at this; omega
        simp [hh, hI, hix, hg, h0, h1, hb]
      · have hall' : (v.take (i + 1)).all (fun n => decide (0 ≤ n ∧ n ≤ 1048576)) = true := by
          rw [htake, List.all_append, hall]; simp; omega
        simp [hh, hI, hix, hg, h0, h1]
        exact fun _ => ⟨by simpa using hall', rfl⟩
  · intro a l g H' ⟨hH, hall⟩ hh hf
    subst hH
    have hb : vecB v = true := by rw [← hv, List.take_length] at hall; exact hall
    simp [hb]
end Go.Proofs.YthmplnbogdfajaaGreatDoor
namespace Go.Proofs.YthmplnbogdfajaaGreatDoor
open Go.Sh
set_option maxRecDepth 100000
theorem isNaN_int (a : Int) (H : GH) : ecall T f_x3 [.int .i64 a] H = some (.bool false, H) := by
  apply optW.eq
  rw [ecall_0 T_x3 rfl (by simp [F_x3]), wp_fin1]
  simp [F_x3, b_x3]
theorem isNaN_str (a : ByteArray) (H : GH) : ecall T f_x4 [.str a] H = some (.bool false, H) := by
  apply optW.eq
  rw [ecall_0 T_x4 rfl (by simp [F_x4]), wp_fin1]
  simp [F_x4, b_x4]
theorem cmp_int (a b : Int) (H : GH) : ecall T f_x0 [.int .i64 a, .int .i64 b] H = some (.int .i64 (cmpI a b), H) := by
  apply optW.eq
  rw [ecall_0 T_x0 rfl (by simp [F_x0]), wp_fin1]
  by_cases h : a < b
  · simp [F_x0, b_x0, isNaN_int, cmpI, h]
  · by_cases h' : b < a <;> simp [F_x0, b_x0, isNaN_int, cmpI, h, h']
theorem cmp_str (a b : ByteArray) (H : GH) : ecall T f_x1 [.str a, .str b] H = some (.int .i64 (cmpS a b), H) := by
  apply optW.eq
  rw [ecall_0 T_x1 rfl (by simp [F_x1]), wp_fin1]
  unfold cmpS
  cases h : Op.bytesLess a.toList b.toList
  · by_cases h' : a.toList = b.toList
    · have h2 := h
      rw [h'] at h2
      simp [F_x1, b_x1, isNaN_str, h2, h', gStr]
    · have h3 : (a.toList == b.toList) = false := beq_eq_false_iff_ne.2 h'
      simp [F_x1, b_x1, isNaN_str, h, h', h3, gStr]
  · simp [F_x1, b_x1, isNaN_str, h, gStr]
theorem cmp_lex (a b : List UInt8) (H : GH) : ecall T f_x1 [.str (mkB a), .str (mkB b)] H = some (.int .i64 (lexL a b), H) := by
  have := cmp_str (mkB a) (mkB b) H
  rwa [cmpS_lex, mkB_data, mkB_data] at this
theorem cmp_or2 (x y : Int) (H : GH) : ecall T f_x2 [.sl 1 [.int .i64 x, .int .i64 y] .exact] H = some (.int .i64 (orL [x, y]), H) := by
  apply optW.eq
  rw [ecall_0 T_x2 rfl (by simp [F_x2]), wp_fin1]
  have w1 : IntKind.i64.wrap 1 = 1 := by decide
  have w2 : IntKind.i64.wrap 2 = 2 := by decide
  by_cases hx : x = 0
  · by_cases hy : y = 0 <;> simp [F_x2, b_x2, hx, hy, run_loop, L0_x2, gIx, w1, w2, orL]
  · simp [F_x2, b_x2, hx, run_loop, L0_x2, gIx, w1, w2, orL]
theorem cmp_or5 (x y z u v : Int) (H : GH) : ecall T f_x2 [.sl 1 [.int .i64 x, .int .i64 y, .int .i64 z, .int .i64 u, .int .i64 v] .exact] H = some (.int .i64 (orL [x, y, z, u, v]), H) := by
  apply optW.eq
  rw [ecall_0 T_x2 rfl (by simp [F_x2]), wp_fin1]
  have w1 : IntKind.i64.wrap 1 = 1 := by decide
  have w2 : IntKind.i64.wrap 2 = 2 := by decide
  have w3 : IntKind.i64.wrap 3 = 3 := by decide
  have w4 : IntKind.i64.wrap 4 = 4 := by decide
  have w5 : IntKind.i64.wrap 5 = 5 := by decide
  by_cases hx : x = 0
  · by_cases hy : y = 0
    · by_cases hz : z = 0
      · by_cases hu : u = 0
        · by_cases hv : v = 0 <;> simp [F_x2, b_x2, hx, hy, hz, hu, hv, run_loop, L0_x2, gIx, w1, w2, w3, w4, w5, orL]
        · simp [F_x2, b_x2, hx, hy, hz, hu, run_loop, L0_x2, gIx, w1, w2, w3, w4, w5, orL]
      · simp [F_x2, b_x2, hx, hy, hz, run_loop, L0_x2, gIx, w1, w2, w3, w4, w5, orL]
    · simp [F_x2, b_x2, hx, hy, run_loop, L0_x2, gIx, w1, w2, w3, w4, w5, orL]
  · simp [F_x2, b_x2, hx, run_loop, L0_x2, gIx, w1, w2, w3, w4, w5, orL]
theorem store_Order (x y : El) (H : GH) : ecall T f_x63 [.agg (elC x), .agg (elC y)] H = some (.int .i64 (ordE x y), H) := by
  apply optW.eq
  rw [ecall_0 T_x63 rfl (by simp [F_x63]), wp_fin1]
  simp [F_x63, b_x63, elC, cmp_int, cmp_lex, gSetAll, cmp_or5, ordE]
theorem store_byDot (x y : Ent) (H : GH) : ecall T f_x71 [.agg (entC x), .agg (entC y)] H = some (.int .i64 (ordD x y), H) := by
  apply optW.eq
  rw [ecall_0 T_x71 rfl (by simp [F_x71]), wp_fin1]
  simp [F_x71, b_x71, entC, cmp_int, gSetAll, cmp_or2, ordD]
end Go.Proofs.YthmplnbogdfajaaGreatDoor
