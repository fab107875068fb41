/- Own work, over the shadow machine: LSpec2. -/
import Derived.Test.YtlmiihdkgaljoaaGreatDoorSp1
set_option linter.all false
namespace Go.Proofs.YtlmiihdkgaljoaaGreatDoor
open Go.Sh
set_option maxRecDepth 100000

theorem bs_size (a : ByteArray) : a.size = a.data.toList.length := by simp
theorem ba_ext {a b : ByteArray} (h : a.data.toList = b.data.toList) : a = b := by
  rcases a with ⟨a⟩; rcases b with ⟨b⟩
  have : a = b := Array.toList_inj.1 h
  rw [this]
theorem str_get (s : ByteArray) (i : Nat) : s[i]? = s.data.toList[i]? := by
  rcases s with ⟨d⟩
  by_cases h : i < d.size
  · have h1 : (ByteArray.mk d)[i]? = some (d[i]) := by
      rw [getElem?_pos (ByteArray.mk d) i h]; rfl
    rw [h1]; simp [h]
  · have h1 : (ByteArray.mk d)[i]? = none := getElem?_neg (ByteArray.mk d) i h
    rw [h1]; simp [Nat.not_lt.1 h]
theorem ix_ok {a : ByteArray} {i : Nat} (h : (i : Int) < a.size) : gIx a.size (.int .i64 i) = some i := by
  simp only [gIx]; rw [if_pos (by omega)]; simp

/-! ## Beginnings -/

def pre (s x : ByteArray) : Bool := x.data.toList.isPrefixOf s.data.toList

theorem pre_iff (s x : ByteArray) (h : x.size ≤ s.size) : pre s x = decide (s.extract 0 x.size = x) := by
  unfold pre
  have hx := bs_size x
  have he : (s.extract 0 x.size).data.toList = s.data.toList.take x.size := by rw [Lib.extract_data]; simp
  rw [Bool.eq_iff_iff, List.isPrefixOf_iff_prefix, List.prefix_iff_eq_take, decide_eq_true_eq]
  constructor
  · intro h2
    apply ba_ext
    rw [he, hx]; exact h2.symm
  · intro h2
    rw [← hx, ← he, h2]

theorem has_prefix (s x : ByteArray) (H : GH) : ecall T f_strings_HasPrefix [.str s, .str x] H = some (.bool (pre s x), H) := by
  have h0 : ecall T f_stringslite_HasPrefix [.str s, .str x] H = some (.bool (pre s x), H) := by
    apply optW.eq
    rw [ecall_0 T_stringslite_HasPrefix rfl (by simp [F_stringslite_HasPrefix]), wp_fin1]
    by_cases h : (x.size : Int) ≤ s.size
    · have h' : x.size ≤ s.size := by omega
      have hgb : gBounds s.size false true false [.int .i64 (x.size : Int)] = some (0, x.size, none) := by
        have e1 : gBound s.size (.int .i64 (x.size : Int)) = some x.size := by simp only [gBound]; rw [if_pos (by omega)]; simp
        simp [gBounds, e1]
      rw [pre_iff s x h']
      simp [F_stringslite_HasPrefix, b_stringslite_HasPrefix, h, h', hgb]
    · have h' : ¬ x.size ≤ s.size := by omega
      have hp : pre s x = false := by
        unfold pre
        rw [Bool.eq_false_iff]
        intro hc
        rw [List.isPrefixOf_iff_prefix] at hc
        have := hc.length_le
        have := bs_size s
        have := bs_size x
        omega
      simp [F_stringslite_HasPrefix, b_stringslite_HasPrefix, h, h', hp]
  apply optW.eq
  rw [ecall_0 T_strings_HasPrefix rfl (by simp [F_strings_HasPrefix]), wp_fin1]
  simp [F_strings_HasPrefix, b_strings_HasPrefix, h0]

/-! ## A sign -/

def bst (s b x : ByteArray) : ByteArray := if pre s x = true ∧ b.size < x.size then x else b

theorem sign_loop (s : ByteArray) (all : List ByteArray) (t : Tag) (hall : all.length ≤ 100) (xs : List ByteArray) : ∀ (j : Nat) (_ : all.drop j = xs) (l : List GV) (g : Nat) (H : GH) (K : GExit × St → Prop) (b : ByteArray)
    (_ : lget l 0 = .str s) (_ : lget l 5 = .str b) (_ : lget l 8 = .sl 1 (all.map .str) t) (_ : lget l 9 = .int .i64 all.length) (_ : lget l 10 = .int .i64 j)
    (_ : ∀ (l' : List GV), lget l' 2 = lget l 2 → lget l' 5 = .str (xs.foldl (bst s) b) → K (.exit 0, ⟨⟨l', g⟩, H⟩)),
    optW (erun T (.loop L0_lex_sign) ⟨⟨l, g⟩, H⟩) K := by
  induction xs with
  | nil =>
    intro j hd l g H K b h0 h5 h8 h9 h10 he
    have hle : all.length ≤ j := by simpa using hd
    have hge : ¬ ((j : Int) < all.length) := by omega
    have hge' : ¬ (j < all.length) := by omega
    rw [run_loop]
    simp [L0_lex_sign, h9, h10, hge, hge']
    exact he _ (by simp) (by simp [h5])
  | cons x xs ih =>
    intro j hd l g H K b h0 h5 h8 h9 h10 he
    have hj : j < all.length := by
      rcases Nat.lt_or_ge j all.length with h1 | h1
      · exact h1
      · rw [List.drop_eq_nil_of_le h1] at hd; cases hd
    have hgv : all[j]? = some x := by
      have := congrArg (·[0]?) hd
      simpa using this
    have hd' : all.drop (j + 1) = xs := by
      have := congrArg List.tail hd
      simpa using this
    have hgd : ∀ h : j < all.length, all[j]'h = x := fun h => by rw [List.getElem?_eq_getElem h] at hgv; exact Option.some.inj hgv
    have hlt : (j : Int) < all.length := by omega
    have hix : gIx all.length (.int .i64 (j : Int)) = some j := by simp only [gIx]; rw [if_pos (by omega)]; simp
    have hw : IntKind.i64.wrap ((j : Int) + 1) = (j : Int) + 1 := wrap_i64' (by omega) (by omega)
    have hp := has_prefix s x H
    rw [run_loop, wp_seqK]
    cases hpv : pre s x <;> rw [hpv] at hp
    · have hb : bst s b x = b := by simp [bst, hpv]
      simp [L0_lex_sign, h0, h5, h8, h9, h10, hlt, hj, hix, hgv, hgd, hp, hw]
      refine ih (j + 1) hd' _ _ H K b ?_ ?_ ?_ ?_ ?_ ?_
      · simp [h0]
      · simp [h5]
      · simp [h8]
      · simp [h9]
      · simp
      · intro l' e2 e5; exact he l' (by rw [e2]; simp) (by rw [e5, List.foldl_cons, hb])
    · by_cases hsz : (b.size : Int) < x.size
      · have hsz' : b.size < x.size := by omega
        have hb : bst s b x = x := by simp [bst, hpv, hsz']
        simp [L0_lex_sign, h0, h5, h8, h9, h10, hlt, hj, hix, hgv, hgd, hp, hw, hsz, hsz']
        refine ih (j + 1) hd' _ _ H K x ?_ ?_ ?_ ?_ ?_ ?_
        · simp [h0]
        · simp
        · simp [h8]
        · simp [h9]
        · simp
        · intro l' e2 e5; exact he l' (by rw [e2]; simp) (by rw [e5, List.foldl_cons, hb])
      · have hsz' : ¬ b.size < x.size := by omega
        have hb : bst s b x = b := by simp [bst, hsz']
        simp [L0_lex_sign, h0, h5, h8, h9, h10, hlt, hj, hix, hgv, hgd, hp, hw, hsz, hsz']
        refine ih (j + 1) hd' _ _ H K b ?_ ?_ ?_ ?_ ?_ ?_
        · simp [h0]
        · simp [h5]
        · simp [h8]
        · simp [h9]
        · simp
        · intro l' e2 e5; exact he l' (by rw [e2]; simp) (by rw [e5, List.foldl_cons, hb])

def signsB : List ByteArray := [⟨#[40]⟩, ⟨#[41]⟩, ⟨#[91]⟩, ⟨#[93]⟩, ⟨#[58]⟩, ⟨#[44]⟩, ⟨#[46]⟩, ⟨#[46, 46]⟩, ⟨#[45]⟩, ⟨#[45, 62]⟩, ⟨#[60, 45]⟩, ⟨#[61]⟩, ⟨#[60, 62]⟩, ⟨#[60]⟩, ⟨#[60, 61]⟩, ⟨#[62]⟩, ⟨#[62, 61]⟩, ⟨#[43]⟩, ⟨#[42]⟩, ⟨#[64]⟩]

theorem signs_ok (H : GH) : ecall T f_lex_Signs [] H = some (.sl 1 (signsB.map .str) .exact, H) := ecall_iff.2 ⟨50, by kernel_rfl⟩

theorem sign_ok (s : ByteArray) (H : GH) : ecall T f_lex_sign [.str s] H = some (.tup [.agg [.int .i64 5, .int .i64 0, .str (signsB.foldl (bst s) ⟨#[]⟩)], .int .i64 (signsB.foldl (bst s) ⟨#[]⟩).size, .bool (decide (¬ signsB.foldl (bst s) ⟨#[]⟩ = ⟨#[]⟩))], H) := by
  apply optW.eq
  rw [ecall_0 T_lex_sign rfl (by simp [F_lex_sign]), wp_fin1]
  have hso := signs_ok H
  simp only [F_lex_sign, b_lex_sign]
  simp [hso]
  rw [wp_seqK, wp_blockK]
  refine sign_loop s signsB .exact (by decide) signsB 0 rfl _ _ _ _ ⟨#[]⟩ ?_ ?_ ?_ ?_ ?_ ?_
  · simp
  · simp
  · simp
  · simp
  · simp
  · intro l' e2 e5
    simp at e2
    simp [e2, e5, gFill, setPart]
end Go.Proofs.YtlmiihdkgaljoaaGreatDoor
