/- Own work, over the shadow machine: JSpec1. -/
import Derived.Test.YtalhcaadpgadkaaDoorVa1
import Derived.Test.YtalhcaadpgadkaaDoorPu6
set_option linter.all false
namespace Go.Proofs.YtalhcaadpgadkaaDoor
open Go.Sh
set_option maxRecDepth 100000

/-! ## Small functions of the script -/

theorem fixed_run (H : GH) : gcall T 3000 f_hedgerowlaw29_fixed [] H = some (.bool true, H) := by kernel_rfl
theorem fixed_ok (H : GH) : ecall T f_hedgerowlaw29_fixed [] H = some (.bool true, H) := ecall_iff.2 ⟨3000, fixed_run H⟩

def mkB (l : List UInt8) : ByteArray := ⟨l.toArray⟩
@[simp] theorem mkB_data (l : List UInt8) : (mkB l).data.toList = l := by simp [mkB]
@[simp] theorem mkB_size (l : List UInt8) : (mkB l).size = l.length := ba_size l
theorem mkB_eta (s : ByteArray) : mkB s.data.toList = s := ba_ext (by simp)
theorem mk_mkB (l : List UInt8) : (⟨l.toArray⟩ : ByteArray) = mkB l := rfl
@[simp] theorem mkB_inj {a b : List UInt8} : mkB a = mkB b ↔ a = b := by
  constructor
  · intro h
    have := congrArg (fun s : ByteArray => s.data.toList) h
    simpa using this
  · intro h; rw [h]
@[simp] theorem mkB_empty : mkB [] = ⟨#[]⟩ := rfl
@[simp] theorem mkB_nil {a : List UInt8} : mkB a = ⟨#[]⟩ ↔ a = [] := (mkB_inj (b := []))

def strG (l : List UInt8) : GV := .str (mkB l)
def rowG (L : List (List UInt8)) (t : Tag) : GV := .sl 1 (L.map strG) t

theorem ops_ok (H : GH) : ecall T f_script_ops [] H = some (rowG opsL .exact, H) := ecall_iff.2 ⟨50, by kernel_rfl⟩
theorem elems_ok (H : GH) : ecall T f_script_elems [] H = some (rowG elsL .exact, H) := ecall_iff.2 ⟨50, by kernel_rfl⟩
theorem names_ok (H : GH) : ecall T f_script_names [] H = some (rowG namL .exact, H) := ecall_iff.2 ⟨50, by kernel_rfl⟩

theorem turned_ok (k : Int) (H : GH) : ecall T f_script_turned [.int .i64 k] H = some (.bool (turnB k), H) := by
  apply optW.eq
  rw [ecall_0 T_script_turned rfl (by simp [F_script_turned]), wp_fin1]
  by_cases h6 : k = 6
  · simp [F_script_turned, b_script_turned, turnB, h6]
  · by_cases h7 : k = 7
    · simp [F_script_turned, b_script_turned, turnB, h7]
    · by_cases h10 : k = 10 <;> simp [F_script_turned, b_script_turned, turnB, h6, h7, h10]

theorem idx_loop (all : List (List UInt8)) (t : Tag) (w : List UInt8) (hall : all.length ≤ 1000) (xs : List (List UInt8)) : ∀ (j : Nat) (_ : all.drop j = xs) (l : List GV) (g : Nat) (H : GH) (K : GExit × St → Prop)
    (_ : lget l 0 = rowG all t) (_ : lget l 1 = .str (mkB w)) (_ : lget l 7 = .int .i64 all.length) (_ : lget l 8 = .int .i64 j)
    (_ : ∀ (l' : List GV), idxL w xs j = -1 → K (.exit 0, ⟨⟨l', g⟩, H⟩))
    (_ : ∀ (l' : List GV), lget l' 4 = .int .i64 (idxL w xs j) → K (.ret, ⟨⟨l', g⟩, H⟩)),
    optW (erun T (.loop L0_slices_Indexstringstring) ⟨⟨l, g⟩, H⟩) K := by
  induction xs with
  | nil =>
    intro j hd l g H K h0 h1 h7 h8 he hr
    have hle : all.length ≤ j := by simpa using hd
    have hge : ¬ ((j : Int) < all.length) := by omega
    have hge' : ¬ (j < all.length) := by omega
    rw [run_loop]
    simp [L0_slices_Indexstringstring, h7, h8, hge, hge']
    exact he _ rfl
  | cons x xs ih =>
    intro j hd l g H K h0 h1 h7 h8 he hr
    have hj : j < all.length := by
      rcases Nat.lt_or_ge j all.length with h1 | h1
      · exact h1
      · rw [List.drop_eq_nil_of_le h1] at hd; cases hd
    have hgv : all[j]? = some x := by
      have := congrArg (·[0]?) hd
      simpa using this
    have hd' : all.drop (j + 1) = xs := by
      have := congrArg List.tail hd
      simpa using this
    have hgd : ∀ h : j < all.length, all[j]'h = x := fun h => by rw [List.getElem?_eq_getElem h] at hgv; exact Option.some.inj hgv
    have hlt : (j : Int) < all.length := by omega
    have hix : gIx all.length (.int .i64 (j : Int)) = some j := by simp only [gIx]; rw [if_pos (by omega)]; simp
    have hw : IntKind.i64.wrap ((j : Int) + 1) = (j : Int) + 1 := wrap_i64' (by omega) (by omega)
    simp only [rowG] at h0
    by_cases hx : w = x
    · rw [run_loop, wp_seqK]
      simp [L0_slices_Indexstringstring, h0, h1, h7, h8, hlt, hj, hix, hgv, hgd, strG, hx]
      refine hr _ ?_
      simp [idxL, hx]
    · rw [run_loop, wp_seqK]
      simp [L0_slices_Indexstringstring, h0, h1, h7, h8, hlt, hj, hix, hgv, hgd, strG, hx, hw]
      refine ih (j + 1) hd' _ _ H K ?_ ?_ ?_ ?_ ?_ ?_
      · simp [h0, rowG]
      · simp [h1]
      · simp [h7]
      · simp
      · intro l' e; exact he l' (by simpa [idxL, hx] using e)
      · intro l' e; exact hr l' (by simpa [idxL, hx] using e)

theorem index_ok (L : List (List UInt8)) (t : Tag) (w : List UInt8) (hL : L.length ≤ 1000) (H : GH) : ecall T f_slices_Indexstringstring [rowG L t, .str (mkB w)] H = some (.int .i64 (idxL w L 0), H) := by
  apply optW.eq
  rw [ecall_0 T_slices_Indexstringstring rfl (by simp [F_slices_Indexstringstring]), wp_fin1]
  simp only [F_slices_Indexstringstring, b_slices_Indexstringstring, rowG]
  simp
  rw [wp_seqK, wp_blockK]
  refine idx_loop L t w hL L 0 rfl _ _ _ _ ?_ ?_ ?_ ?_ ?_ ?_
  · simp [rowG]
  · simp
  · simp
  · simp
  · intro l' e
    simp [e]
  · intro l' e
    simp [e]

theorem cut_ok (s : List UInt8) (x : UInt8) (hs : s.length ≤ 4000000) (H : GH) : ecall T f_strings_Cut [.str (mkB s), .str ⟨#[x]⟩] H = some (.tup [.str (mkB (Lib.cut s [x]).1), .str (mkB (Lib.cut s [x]).2.1), .bool (Lib.cut s [x]).2.2], H) := by
  rw [ecall_lib T_strings_Cut (by decide) (by simp [F_strings_Cut])]
  have h1 : (mkB s).size < 4294967281 := by rw [mkB_size]; omega
  have h2 : (⟨#[x]⟩ : ByteArray).data.toList = [x] := rfl
  simp only [libH, libP, lCut, F_strings_Cut, if_pos h1, mkB_data, h2]
  rfl

theorem strs_strG : ∀ L : List (List UInt8), strsOf (L.map strG) = some (L.map mkB)
  | [] => rfl
  | l :: L => by simp [strsOf, strG, strs_strG L]

theorem join_ok (v : GV) (L : List (List UInt8)) (hv : Elems 1 v (L.map strG)) (sep : List UInt8) (h1 : L.length ≤ 100000) (h2 : (Lib.join L sep).length ≤ 100000000) (H : GH) : ecall T f_strings_Join [v, .str (mkB sep)] H = some (.str (mkB (Lib.join L sep)), H) := by
  rw [ecall_lib T_strings_Join (by decide) (by simp [F_strings_Join])]
  generalize hxs : L.map strG = xs at hv
  cases hv with
  | nil =>
    have : L = [] := by simpa using hxs
    subst this
    rfl
  | sl xs t =>
    subst hxs
    have e : (L.map mkB).map (fun s : ByteArray => s.data.toList) = L := by simp [List.map_map, Function.comp_def]
    simp only [libH, libP, lJoin, F_strings_Join, strs_strG, Option.bind_some, mkB_data, List.length_map]
    have hc : L.length ≤ 140737488355328 ∧ (Lib.join L sep).length ≤ 140737488355328 := ⟨by omega, by omega⟩
    rw [e, if_pos hc]
    rfl

/-- A word taken off a line that lies in the heap. -/
theorem word_ok {H : GH} {id : Nat} {s : List UInt8} (hs : s.length ≤ 4000000) (hb : H.bo ≤ id) (ho : H.objs[id]? = some (.cells 9 [.str (mkB s)])) :
    ecall T f_script_word [.ptr id 0] H = some (.str (mkB (w1 s)), { H with objs := H.objs.set id (.cells 9 [.str (mkB (r1 s))]) }) := by
  have hc := cut_ok s 32 hs H
  apply optW.eq
  rw [ecall_0 T_script_word rfl (by simp [F_script_word]), wp_fin1]
  simp [F_script_word, b_script_word, ho, hc, hb, setPart, w1, r1]
end Go.Proofs.YtalhcaadpgadkaaDoor
