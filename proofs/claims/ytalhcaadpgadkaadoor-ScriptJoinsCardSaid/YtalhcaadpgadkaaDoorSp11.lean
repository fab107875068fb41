/- Own work, over the shadow machine: JSpec11. -/
import Derived.Test.YtalhcaadpgadkaaDoorSp10
set_option linter.all false
namespace Go.Proofs.YtalhcaadpgadkaaDoor
open Go.Sh
set_option maxRecDepth 100000

/-! ## The reader -/

theorem numO_range (l : List UInt8) : -9223372036854775808 ≤ (numO l).1 ∧ (numO l).1 ≤ 9223372036854775807 := by
  unfold numO
  cases h : Lib.atoiAll l with
  | ok v =>
    show -9223372036854775808 ≤ v ∧ v ≤ _
    unfold Lib.atoiAll at h
    split at h
    · cases h
    · simp only at h
      split at h
      · cases h
      · cases h
      · rename_i u _
        split at h
        · cases h
        · split at h
          · cases h
          · injection h with h
            split at h <;> omega
  | _ => first
    | (show -9223372036854775808 ≤ (0 : Int) ∧ (0 : Int) ≤ _; omega)
    | (show -9223372036854775808 ≤ Lib.atoiSat l ∧ Lib.atoiSat l ≤ _; unfold Lib.atoiSat; split <;> omega)

theorem atoi_lib2 (w : List UInt8) (hw : w.length ≤ 4000000) (H : GH) : ∃ e, ecall T f_strconv_Atoi [.str (mkB w)] H = some (.tup [.int .i64 (numO w).1, e], H) ∧ (∀ t, unbox t e = e) ∧ leafEq .iface e .niliface = some (!(numO w).2) := by
  rw [ecall_lib T_strconv_Atoi (by decide) (by simp [F_strconv_Atoi])]
  have hz : (mkB w).size ≤ 281474976710656 := by rw [mkB_size]; omega
  simp only [libH, libP, lAtoi, F_strconv_Atoi, if_pos hz, mkB_data]
  unfold numO
  rcases Lib.atoiAll w with v | _ | _
  · exact ⟨.niliface, rfl, fun _ => rfl, rfl⟩
  · exact ⟨_, rfl, fun _ => rfl, rfl⟩
  · exact ⟨_, rfl, fun _ => rfl, rfl⟩

theorem line_ok {H : GH} {id : Nat} {rest : List UInt8} {bad : Bool} (hs : rest.length ≤ 4000000) (hb : H.bo ≤ id) (ho : H.objs[id]? = some (.cells 52 [.str (mkB rest), .bool bad])) :
    ecall T f_script_reader_line [.ptr id 0] H = some (.str (mkB (lineR rest bad).1), { H with objs := H.objs.set id (.cells 52 [.str (mkB (lineR rest bad).2.1), .bool (lineR rest bad).2.2]) }) := by
  have hc := cut_ok rest 10 hs H
  have hget : ∀ o, (H.objs.set id o)[id]? = some o := fun o => by simp [(List.getElem?_eq_some_iff.1 ho).1]
  apply optW.eq
  rw [ecall_0 T_script_reader_line rfl (by simp [F_script_reader_line]), wp_fin1]
  cases bad with
  | true => simp [F_script_reader_line, b_script_reader_line, ho, hc, hb, hget, setPart, lineR]
  | false => simp [F_script_reader_line, b_script_reader_line, ho, hc, hb, hget, setPart, lineR]

theorem number_ok {H : GH} {id lid : Nat} {rest l : List UInt8} {bad : Bool} (hne : lid ≠ id) (hs : l.length ≤ 4000000) (hb : H.bo ≤ id) (hb2 : H.bo ≤ lid) (ho : H.objs[id]? = some (.cells 52 [.str (mkB rest), .bool bad])) (hl : H.objs[lid]? = some (.cells 9 [.str (mkB l)])) :
    ecall T f_script_reader_number [.ptr id 0, .ptr lid 0] H = some (.int .i64 (numO (w1 l)).1, { H with objs := (H.objs.set lid (.cells 9 [.str (mkB (r1 l))])).set id (.cells 52 [.str (mkB rest), .bool (bad || (numO (w1 l)).2)]) }) := by
  have hw := word_ok hs hb2 hl
  obtain ⟨e, ha, hu, hle⟩ := atoi_lib2 (w1 l) (by have := w1_len l; omega) { H with objs := H.objs.set lid (.cells 9 [.str (mkB (r1 l))]) }
  have ho2 : (H.objs.set lid (.cells 9 [.str (mkB (r1 l))]))[id]? = some (.cells 52 [.str (mkB rest), .bool bad]) := by
    rw [List.getElem?_set_ne hne]; exact ho
  apply optW.eq
  rw [ecall_0 T_script_reader_number rfl (by simp [F_script_reader_number]), wp_fin1]
  cases bad with
  | true => simp [F_script_reader_number, b_script_reader_number, ho2, hw, ha, hu, hb, setPart]
  | false => simp [F_script_reader_number, b_script_reader_number, ho2, hw, ha, hu, hle, hb, setPart]

/-- The heap of a reading: the reader, the step, the line. -/
def rM (O : List GObj) (rid : Nat) (rest : List UInt8) (bad : Bool) (x : Stp) (v : GV) (L : List UInt8) (tk : List Nat) (bo bt : Nat) : GH :=
  ⟨O.set rid (.cells 52 [.str (mkB rest), .bool bad]) ++ [.cells 33 (stpC x v), .cells 9 [.str (mkB L)]], tk, bo, bt⟩

section
variable {O : List GObj} {rid : Nat} (hr : rid < O.length) (rest : List UInt8) (bad : Bool) (x : Stp) (v : GV) (L : List UInt8) (tk : List Nat) (bo bt : Nat)
include hr in
theorem rM_r : (rM O rid rest bad x v L tk bo bt).objs[rid]? = some (.cells 52 [.str (mkB rest), .bool bad]) := by
  simp [rM, hr, List.getElem?_append]
omit hr in
theorem rM_s : (rM O rid rest bad x v L tk bo bt).objs[O.length]? = some (.cells 33 (stpC x v)) := by
  simp [rM, List.getElem?_append]
omit hr in
theorem rM_l : (rM O rid rest bad x v L tk bo bt).objs[O.length + 1]? = some (.cells 9 [.str (mkB L)]) := by
  simp [rM, List.getElem?_append]
omit hr in
@[simp] theorem rM_bo : (rM O rid rest bad x v L tk bo bt).bo = bo := rfl
omit hr in
@[simp] theorem rM_bt : (rM O rid rest bad x v L tk bo bt).bt = bt := rfl
omit hr in
@[simp] theorem rM_tk : (rM O rid rest bad x v L tk bo bt).toks = tk := rfl
include hr in
theorem rM_setr (rest' : List UInt8) (bad' : Bool) : ({ objs := (rM O rid rest bad x v L tk bo bt).objs.set rid (.cells 52 [.str (mkB rest'), .bool bad']), toks := tk, bo := bo, bt := bt } : GH) = rM O rid rest' bad' x v L tk bo bt := by
  simp [rM, List.set_append, hr]
omit hr in
theorem rM_sets (x' : Stp) (v' : GV) : ({ objs := (rM O rid rest bad x v L tk bo bt).objs.set O.length (.cells 33 (stpC x' v')), toks := tk, bo := bo, bt := bt } : GH) = rM O rid rest bad x' v' L tk bo bt := by
  simp [rM, List.set_append]

include hr in
theorem rM_number (hb : bo ≤ rid) (hL : L.length ≤ 4000000) : ecall T f_script_reader_number [.ptr rid 0, .ptr (O.length + 1) 0] (rM O rid rest bad x v L tk bo bt) = some (.int .i64 (numO (w1 L)).1, rM O rid rest (bad || (numO (w1 L)).2) x v (r1 L) tk bo bt) := by
  rw [number_ok (by omega) hL hb (by simp; omega) (rM_r hr rest bad x v L tk bo bt) (rM_l rest bad x v L tk bo bt)]
  simp only [rM, Option.some.injEq, Prod.mk.injEq, true_and]
  congr 1
  rw [List.set_append_right _ _ (by simp), List.set_append_left _ _ (by simpa using hr)]
  simp

include hr in
theorem rM_line (hb : bo ≤ rid) (hR : rest.length ≤ 4000000) : ecall T f_script_reader_line [.ptr rid 0] (rM O rid rest bad x v L tk bo bt) = some (.str (mkB (lineR rest bad).1), rM O rid (lineR rest bad).2.1 (lineR rest bad).2.2 x v L tk bo bt) := by
  rw [line_ok hR hb (rM_r hr rest bad x v L tk bo bt)]
  exact congrArg some (Prod.ext rfl (rM_setr hr rest bad x v L tk bo bt _ _))
end

theorem set_num (x : Stp) (v : GV) (n : Int) {p : Nat} (h1 : 1 ≤ p) (h5 : p ≤ 5) : setPart (stpC x v) p [.int .i64 n] = some (stpC (x.setN p n) v) := by
  have : p = 1 ∨ p = 2 ∨ p = 3 ∨ p = 4 ∨ p = 5 := by omega
  rcases this with rfl | rfl | rfl | rfl | rfl <;> rfl

theorem takeN_loop (O : List GObj) (rid : Nat) (hr : rid < O.length) (rest : List UInt8) (v : GV) (tk : List Nat) (bo bt : Nat) (hb : bo ≤ rid) (all : List Nat) (hall : all.length ≤ 3) (hin : ∀ o ∈ all, 1 ≤ o ∧ o ≤ 5) (xs : List Nat) : ∀ (j : Nat) (_ : all.drop j = xs) (l : List GV) (g : Nat) (K : GExit × St → Prop) (x : Stp) (L : List UInt8) (bad : Bool) (_ : L.length ≤ 4000000)
    (_ : lget l 22 = .sl 1 (all.map fun o => .ptr O.length o) .exact) (_ : lget l 23 = .int .i64 all.length) (_ : lget l 24 = .int .i64 j) (_ : lget l 0 = .ptr rid 0) (_ : lget l 2 = .ptr O.length 0) (_ : lget l 3 = .ptr (O.length + 1) 0)
    (_ : ∀ (l' : List GV), lget l' 0 = .ptr rid 0 → lget l' 2 = .ptr O.length 0 → lget l' 3 = .ptr (O.length + 1) 0 → K (.exit 0, ⟨⟨l', g⟩, rM O rid rest (takeN xs x L bad).2.2 (takeN xs x L bad).1 v (takeN xs x L bad).2.1 tk bo bt⟩)),
    optW (erun T (.loop L0_script_reader_step) ⟨⟨l, g⟩, rM O rid rest bad x v L tk bo bt⟩) K := by
  induction xs with
  | nil =>
    intro j hd l g K x L bad hL h22 h23 h24 h0 h2 h3 he
    have hle : all.length ≤ j := by simpa using hd
    have hge : ¬ ((j : Int) < all.length) := by omega
    have hge' : ¬ (j < all.length) := by omega
    rw [run_loop]
    simp [L0_script_reader_step, h23, h24, hge, hge']
    exact he _ (by simp [h0]) (by simp [h2]) (by simp [h3])
  | cons p xs ih =>
    intro j hd l g K x L bad hL h22 h23 h24 h0 h2 h3 he
    have hj : j < all.length := by
      rcases Nat.lt_or_ge j all.length with h1 | h1
      · exact h1
      · rw [List.drop_eq_nil_of_le h1] at hd; cases hd
    have hgv : all[j]? = some p := by
      have := congrArg (·[0]?) hd
      simpa using this
    have hd' : all.drop (j + 1) = xs := by
      have := congrArg List.tail hd
      simpa using this
    have hgd : ∀ h : j < all.length, all[j]'h = p := fun h => by rw [List.getElem?_eq_getElem h] at hgv; exact Option.some.inj hgv
    obtain ⟨hp1, hp5⟩ := hin p (List.mem_of_getElem? hgv)
    have hlt : (j : Int) < all.length := by omega
    have hix : gIx all.length (.int .i64 (j : Int)) = some j := by simp only [gIx]; rw [if_pos (by omega)]; simp
    have hw : IntKind.i64.wrap ((j : Int) + 1) = (j : Int) + 1 := wrap_i64' (by omega) (by omega)
    have hn := rM_number hr rest bad x v L tk bo bt hb hL
    have hs := rM_s (O := O) (rid := rid) rest (bad || (numO (w1 L)).2) x v (r1 L) tk bo bt
    have hset := set_num x v (numO (w1 L)).1 hp1 hp5
    have hbo : bo ≤ O.length := by omega
    have hrs := rM_sets (O := O) (rid := rid) rest (bad || (numO (w1 L)).2) x v (r1 L) tk bo bt (x.setN p (numO (w1 L)).1) v
    rw [run_loop, wp_seqK]
    simp [L0_script_reader_step, h22, h23, h24, h0, h2, h3, hlt, hj, hix, hgv, hgd, hn, hs, hset, hbo, hw, hrs]
    refine ih (j + 1) hd' _ g K (x.setN p (numO (w1 L)).1) (r1 L) (bad || (numO (w1 L)).2) (by have := r1_len L; omega) ?_ ?_ ?_ ?_ ?_ ?_ ?_
    · simp [h22]
    · simp [h23]
    · simp
    · simp [h0]
    · simp [h2]
    · simp [h3]
    · intro l' f0 f2 f3
      exact he l' f0 f2 f3
end Go.Proofs.YtalhcaadpgadkaaDoor
