/- Own work: the shadow machine and what it shows, part Sp1. -/
import Derived.Test.YtlmiihdkgaljoaaGreatDoorFun
import Derived.Test.YtlmiihdkgaljoaaGreatDoorShF
set_option linter.all false

namespace Go.Proofs.YtlmiihdkgaljoaaGreatDoor
open Go.Sh
set_option maxRecDepth 100000

theorem fixed_run (H : GH) : gcall T 3000 f_hedgerowlaw18_fixed [] H = some (.bool true, H) := by kernel_rfl
theorem fixed_ok (H : GH) : ecall T f_hedgerowlaw18_fixed [] H = some (.bool true, H) := ecall_iff.2 ⟨3000, fixed_run H⟩
theorem letter43 (H : GH) : ecall T f_lex_letter [.int .u8 43] H = some (.bool false, H) := ecall_iff.2 ⟨50, by kernel_rfl⟩
theorem digit43 (H : GH) : ecall T f_lex_digit [.int .u8 43] H = some (.bool false, H) := ecall_iff.2 ⟨50, by kernel_rfl⟩
end Go.Proofs.YtlmiihdkgaljoaaGreatDoor

namespace Go.Proofs.YtlmiihdkgaljoaaGreatDoor
open Go.Sh
set_option maxRecDepth 100000

theorem bs_size (a : ByteArray) : a.size = a.data.toList.length := by simp
theorem ba_ext {a b : ByteArray} (h : a.data.toList = b.data.toList) : a = b := by
  rcases a with ⟨a⟩; rcases b with ⟨b⟩
  have : a = b := Array.toList_inj.1 h
  rw [this]
theorem str_get (s : ByteArray) (i : Nat) : s[i]? = s.data.toList[i]? := by
  rcases s with ⟨d⟩
  by_cases h : i < d.size
  · have h1 : (ByteArray.mk d)[i]? = some (d[i]) := by
      rw [getElem?_pos (ByteArray.mk d) i h]; rfl
    rw [h1]; simp [h]
  · have h1 : (ByteArray.mk d)[i]? = none := getElem?_neg (ByteArray.mk d) i h
    rw [h1]; simp [Nat.not_lt.1 h]
theorem ix_ok {a : ByteArray} {i : Nat} (h : (i : Int) < a.size) : gIx a.size (.int .i64 i) = some i := by
  simp only [gIx]; rw [if_pos (by omega)]; simp

/-! ## Beginnings -/

def pre (s x : ByteArray) : Bool := x.data.toList.isPrefixOf s.data.toList

theorem pre_iff (s x : ByteArray) (h : x.size ≤ s.size) : pre s x = decide (s.extract 0 x.size = x) := by
  unfold pre
  have hx := bs_size x
  have he : (s.extract 0 x.size).data.toList = s.data.toList.take x.size := by rw [Lib.extract_data]; simp
  rw [Bool.eq_iff_iff, List.isPrefixOf_iff_prefix, List.prefix_iff_eq_take, decide_eq_true_eq]
  constructor
  · intro h2
    apply ba_ext
    rw [he, hx]; exact h2.symm
  · intro h2
    rw [← hx, ← he, h2]

theorem has_prefix (s x : ByteArray) (H : GH) : ecall T f_strings_HasPrefix [.str s, .str x] H = some (.bool (pre s x), H) := by
  have h0 : ecall T f_stringslite_HasPrefix [.str s, .str x] H = some (.bool (pre s x), H) := by
    apply optW.eq
    rw [ecall_0 T_stringslite_HasPrefix rfl (by simp [F_stringslite_HasPrefix]), wp_fin1]
    by_cases h : (x.size : Int) ≤ s.size
    · have h' : x.size ≤ s.size := by omega
      have hgb : gBounds s.size false true false [.int .i64 (x.size : Int)] = some (0, x.size, none) := by
        have e1 : gBound s.size (.int .i64 (x.size : Int)) = some x.size := by simp only [gBound]; rw [if_pos (by omega)]; simp
        simp [gBounds, e1]
      rw [pre_iff s x h']
      simp [F_stringslite_HasPrefix, b_stringslite_HasPrefix, h, h', hgb]
    · have h' : ¬ x.size ≤ s.size := by omega
      have hp : pre s x = false := by
        unfold pre
        rw [Bool.eq_false_iff]
        intro hc
        rw [List.isPrefixOf_iff_prefix] at hc
        have := hc.length_le
        have := bs_size s
        have := bs_size x
        omega
      simp [F_stringslite_HasPrefix, b_stringslite_HasPrefix, h, h', hp]
  apply optW.eq
  rw [ecall_0 T_strings_HasPrefix rfl (by simp [F_strings_HasPrefix]), wp_fin1]
  simp [F_strings_HasPrefix, b_strings_HasPrefix, h0]

/-! ## A sign -/

def bst (s b x : ByteArray) : ByteArray := if pre s x = true ∧ b.size < x.size then x else b

theorem sign_loop (s : ByteArray) (all : List ByteArray) (t : Tag) (hall : all.length ≤ 100) (xs : List ByteArray) : ∀ (j : Nat) (_ : all.drop j = xs) (l : List GV) (g : Nat) (H : GH) (K : GExit × St → Prop) (b : ByteArray)
    (_ : lget l 0 = .str s) (_ : lget l 5 = .str b) (_ : lget l 8 = .sl 1 (all.map .str) t) (_ : lget l 9 = .int .i64 all.length) (_ : lget l 10 = .int .i64 j)
    (_ : ∀ (l' : List GV), lget l' 2 = lget l 2 → lget l' 5 = .str (xs.foldl (bst s) b) → K (.exit 0, ⟨⟨l', g⟩, H⟩)),
    optW (erun T (.loop L0_lex_sign) ⟨⟨l, g⟩, H⟩) K := by
  induction xs with
  | nil =>
    intro j hd l g H K b h0 h5 h8 h9 h10 he
    have hle : all.length ≤ j := by simpa using hd
    have hge : ¬ ((j : Int) < all.length) := by omega
    have hge' : ¬ (j < all.length) := by omega
    rw [run_loop]
    simp [L0_lex_sign, h9, h10, hge, hge']
    exact he _ (by simp) (by simp [h5])
  | cons x xs ih =>
    intro j hd l g H K b h0 h5 h8 h9 h10 he
    have hj : j < all.length := by
      rcases Nat.lt_or_ge j all.length with h1 | h1
      · exact h1
      · rw [List.drop_eq_nil_of_le h1] at hd; cases hd
    have hgv : all[j]? = some x := by
      have := congrArg (·[0]?) hd
      simpa using this
    have hd' : all.drop (j + 1) = xs := by
      have := congrArg List.tail hd
      simpa using this
    have hgd : ∀ h : j < all.length, all[j]'h = x := fun h => by rw [List.getElem?_eq_getElem h] at hgv; exact Option.some.inj hgv
    have hlt : (j : Int) < all.length := by omega
    have hix : gIx all.length (.int .i64 (j : Int)) = some j := by simp only [gIx]; rw [if_pos (by omega)]; simp
    have hw : IntKind.i64.wrap ((j : Int) + 1) = (j : Int) + 1 := wrap_i64' (by omega) (by omega)
    have hp := has_prefix s x H
    rw [run_loop, wp_seqK]
    cases hpv : pre s x <;> rw [hpv] at hp
    · have hb : bst s b x = b := by simp [bst, hpv]
      simp [L0_lex_sign, h0, h5, h8, h9, h10, hlt, hj, hix, hgv, hgd, hp, hw]
      refine ih (j + 1) hd' _ _ H K b ?_ ?_ ?_ ?_ ?_ ?_
      · simp [h0]
      · simp [h5]
      · simp [h8]
      · simp [h9]
      · simp
      · intro l' e2 e5; exact he l' (by rw [e2]; simp) (by rw [e5, List.foldl_cons, hb])
    · by_cases hsz : (b.size : Int) < x.size
      · have hsz' : b.size < x.size := by omega
        have hb : bst s b x = x := by simp [bst, hpv, hsz']
        simp [L0_lex_sign, h0, h5, h8, h9, h10, hlt, hj, hix, hgv, hgd, hp, hw, hsz, hsz']
        refine ih (j + 1) hd' _ _ H K x ?_ ?_ ?_ ?_ ?_ ?_
        · simp [h0]
        · simp
        · simp [h8]
        · simp [h9]
        · simp
        · intro l' e2 e5; exact he l' (by rw [e2]; simp) (by rw [e5, List.foldl_cons, hb])
      · have hsz' : ¬ b.size < x.size := by omega
        have hb : bst s b x = b := by simp [bst, hsz']
        simp [L0_lex_sign, h0, h5, h8, h9, h10, hlt, hj, hix, hgv, hgd, hp, hw, hsz, hsz']
        refine ih (j + 1) hd' _ _ H K b ?_ ?_ ?_ ?_ ?_ ?_
        · simp [h0]
        · simp [h5]
        · simp [h8]
        · simp [h9]
        · simp
        · intro l' e2 e5; exact he l' (by rw [e2]; simp) (by rw [e5, List.foldl_cons, hb])

def signsB : List ByteArray := [⟨#[40]⟩, ⟨#[41]⟩, ⟨#[91]⟩, ⟨#[93]⟩, ⟨#[58]⟩, ⟨#[44]⟩, ⟨#[46]⟩, ⟨#[46, 46]⟩, ⟨#[45]⟩, ⟨#[45, 62]⟩, ⟨#[60, 45]⟩, ⟨#[61]⟩, ⟨#[60, 62]⟩, ⟨#[60]⟩, ⟨#[60, 61]⟩, ⟨#[62]⟩, ⟨#[62, 61]⟩, ⟨#[43]⟩, ⟨#[42]⟩, ⟨#[64]⟩]

theorem signs_ok (H : GH) : ecall T f_lex_Signs [] H = some (.sl 1 (signsB.map .str) .exact, H) := ecall_iff.2 ⟨50, by kernel_rfl⟩

theorem sign_ok (s : ByteArray) (H : GH) : ecall T f_lex_sign [.str s] H = some (.tup [.agg [.int .i64 5, .int .i64 0, .str (signsB.foldl (bst s) ⟨#[]⟩)], .int .i64 (signsB.foldl (bst s) ⟨#[]⟩).size, .bool (decide (¬ signsB.foldl (bst s) ⟨#[]⟩ = ⟨#[]⟩))], H) := by
  apply optW.eq
  rw [ecall_0 T_lex_sign rfl (by simp [F_lex_sign]), wp_fin1]
  have hso := signs_ok H
  simp only [F_lex_sign, b_lex_sign]
  simp [hso]
  rw [wp_seqK, wp_blockK]
  refine sign_loop s signsB .exact (by decide) signsB 0 rfl _ _ _ _ ⟨#[]⟩ ?_ ?_ ?_ ?_ ?_ ?_
  · simp
  · simp
  · simp
  · simp
  · simp
  · intro l' e2 e5
    simp at e2
    simp [e2, e5, gFill, setPart]
end Go.Proofs.YtlmiihdkgaljoaaGreatDoor

namespace Go.Proofs.YtlmiihdkgaljoaaGreatDoor
open Go.Sh
set_option maxRecDepth 100000

/-! ## A row of plus signs -/

theorem trim_same (s : ByteArray) (hs : s.data.toList.head? ≠ some 32) (H : GH) : ecall T f_strings_TrimLeft [.str s, .str ⟨#[32]⟩] H = some (.str s, H) := by
  have hz : ∀ a : ByteArray, a.size = a.data.toList.length := bs_size
  by_cases h0 : s = ⟨#[]⟩
  · apply optW.eq
    rw [ecall_0 T_strings_TrimLeft rfl (by simp [F_strings_TrimLeft]), wp_fin1]
    simp [F_strings_TrimLeft, b_strings_TrimLeft, h0]
  · obtain ⟨c, r, hcr⟩ : ∃ c r, s.data.toList = c :: r := by
      cases hh : s.data.toList with
      | nil => exact absurd (ba_ext (b := ⟨#[]⟩) (by rw [hh])) h0
      | cons c r => exact ⟨c, r, rfl⟩
    have hsz : s.size = r.length + 1 := by rw [hz, hcr]; rfl
    have hc : ¬ c = 32 := fun h => hs (by rw [hcr, h]; rfl)
    have n1 : ¬ c.toNat = 32 := fun h => hc (UInt8.toNat_inj.1 h)
    have m1 : ¬ (c.toNat : Int) = 32 := by omega
    have hix : gIx s.size (.int .i64 0) = some 0 := ix_ok (i := 0) (by omega)
    have hg0 : s.data[0]? = some c := by
      have : s.data.toList[0]? = some c := by rw [hcr]; rfl
      simpa using this
    have hgd : ∀ h : 0 < s.data.size, s.data[0]'h = c := fun h => by rw [Array.getElem?_eq_getElem h] at hg0; exact Option.some.inj hg0
    have hp : (0 : Int) < s.size := by omega
    have hp' : 0 < s.size := by omega
    have hb : ecall T f_strings_trimLeftByte [.str s, .int .u8 32] H = some (.str s, H) := by
      apply optW.eq
      rw [ecall_0 T_strings_trimLeftByte rfl (by simp [F_strings_trimLeftByte]), wp_fin1]
      simp [F_strings_trimLeftByte, b_strings_trimLeftByte, run_loop, L0_strings_trimLeftByte, hp, hp', hix, str_get, hg0, hgd, n1, m1]
    have h1 : ((⟨#[32]⟩ : ByteArray).size : Int) = 1 := rfl
    have h1' : (⟨#[32]⟩ : ByteArray).size = 1 := rfl
    have h2 : (⟨#[32]⟩ : ByteArray) ≠ ⟨#[]⟩ := by decide
    have hix1 : gIx 1 (.int .i64 0) = some 0 := by decide
    apply optW.eq
    rw [ecall_0 T_strings_TrimLeft rfl (by simp [F_strings_TrimLeft]), wp_fin1]
    simp [F_strings_TrimLeft, b_strings_TrimLeft, h0, h1', h2, hix1, str_get, hb]

theorem fold_plus (s : ByteArray) (r : List UInt8) (h : s.data.toList = 43 :: r) : signsB.foldl (bst s) ⟨#[]⟩ = ⟨#[43]⟩ := by
  have hp : ∀ a l, pre s ⟨#[a]⟩ = (a == 43) ∧ (a ≠ 43 → pre s ⟨#[a, l]⟩ = false) := by
    intro a l
    constructor
    · unfold pre; rw [h]; simp [List.isPrefixOf]
    · intro ha; unfold pre; rw [h]; simp [List.isPrefixOf, ha]
  have z0 : (⟨#[]⟩ : ByteArray).size = 0 := rfl
  have z1 : (⟨#[43]⟩ : ByteArray).size = 1 := rfl
  have b1 : ∀ b a : _, a ≠ 43 → bst s b ⟨#[a]⟩ = b := by
    intro b a ha
    have : pre s ⟨#[a]⟩ = false := by rw [(hp a 0).1]; simpa using ha
    simp [bst, this]
  have b2 : ∀ b a c : _, a ≠ 43 → bst s b ⟨#[a, c]⟩ = b := by
    intro b a c ha
    simp [bst, (hp a c).2 ha]
  have b3 : bst s ⟨#[]⟩ ⟨#[43]⟩ = ⟨#[43]⟩ := by
    have : pre s ⟨#[43]⟩ = true := by rw [(hp 43 0).1]; rfl
    simp [bst, this, z0, z1]
  simp only [signsB, List.foldl_cons, List.foldl_nil]
  rw [b1 _ 40 (by decide), b1 _ 41 (by decide), b1 _ 91 (by decide), b1 _ 93 (by decide), b1 _ 58 (by decide), b1 _ 44 (by decide), b1 _ 46 (by decide), b2 _ 46 46 (by decide), b1 _ 45 (by decide), b2 _ 45 62 (by decide), b2 _ 60 45 (by decide), b1 _ 61 (by decide), b2 _ 60 62 (by decide), b1 _ 60 (by decide), b2 _ 60 61 (by decide), b1 _ 62 (by decide), b2 _ 62 61 (by decide), b3, b1 _ 42 (by decide), b1 _ 64 (by decide)]

def plusT : GV := .agg [.int .i64 5, .int .i64 0, .str ⟨#[43]⟩]

theorem next_plus (s : ByteArray) (r : List UInt8) (h : s.data.toList = 43 :: r) (H : GH) : ecall T f_lex_next [.str s] H = some (.tup [plusT, .int .i64 1, .bool true], H) := by
  have hs := sign_ok s H
  rw [fold_plus s r h] at hs
  have hsz : s.size = r.length + 1 := by rw [bs_size, h]; rfl
  have hix : gIx s.size (.int .i64 0) = some 0 := ix_ok (i := 0) (by omega)
  have hg0 : s.data[0]? = some 43 := by
    have : s.data.toList[0]? = some 43 := by rw [h]; rfl
    simpa using this
  have z1 : (⟨#[43]⟩ : ByteArray).size = 1 := rfl
  have z2 : ¬ (⟨#[43]⟩ : ByteArray) = ⟨#[]⟩ := by decide
  rw [z1] at hs
  simp only [z2, not_false_eq_true, decide_true] at hs
  have e43 : ((43 : UInt8).toNat : Int) = 43 := rfl
  apply optW.eq
  rw [ecall_0 T_lex_next rfl (by simp [F_lex_next]), wp_fin1]
  simp [F_lex_next, b_lex_next, hix, str_get, hg0, letter43, digit43, hs, setPart, plusT]

theorem App.unbox {H : GH} {sz : Nat} {s : GV} {xs : List GV} (h : App H sz s xs) (t : Nat) : unbox t s = s := by cases h <;> rfl

theorem tokens_loop (m : Nat) : ∀ (s : ByteArray) (_ : s.data.toList = List.replicate m 43) (l : List GV) (g : Nat) (H : GH) (K : GExit × St → Prop) (k : Nat) (o : GV)
    (_ : lget l 0 = .str s) (_ : lget l 4 = o) (_ : App H 3 o (List.replicate k plusT)) (_ : H.bt ≤ H.toks.length) (_ : k + m ≤ 5000)
    (_ : ∀ (l' : List GV) (g' : Nat) (H' : GH) (o' : GV), lget l' 2 = o' → lget l' 3 = .int .i64 0 → App H' 3 o' (List.replicate (k + m) plusT) → K (.ret, ⟨⟨l', g'⟩, H'⟩)),
    optW (erun T (.loop L0_lex_Tokens) ⟨⟨l, g⟩, H⟩) K := by
  induction m with
  | zero =>
    intro s hs l g H K k o h0 h4 hA hbt hk he
    have hse : s = ⟨#[]⟩ := ba_ext (by rw [hs]; rfl)
    have ht := trim_same s (by rw [hs]; simp) H
    rw [run_loop]
    subst hse
    simp [L0_lex_Tokens, h0, ht, h4, App.unbox hA]
    exact he _ _ H o (by simp) (by simp) (by simpa using hA)
  | succ m ih =>
    intro s hs l g H K k o h0 h4 hA hbt hk he
    have hs1 : s.data.toList = 43 :: List.replicate m 43 := by rw [hs]; rfl
    have hsz : s.size = m + 1 := by rw [bs_size, hs]; simp
    have hne : ¬ s = ⟨#[]⟩ := by intro h; rw [h] at hs1; cases hs1
    have ht := trim_same s (by rw [hs1]; simp) H
    have hn := next_plus s _ hs1 H
    obtain ⟨o', H', hap, hA', hstep, _⟩ := append_ok (ty := 30) (bytes := 32) (x := .sl 3 [plusT] .exact) (ys := [plusT]) hA (by simp [gNews]) hbt (by simp [room]; omega) (by simp [maxLen]; omega)
    have e1 : gBound s.size (.int .i64 1) = some 1 := by simp only [gBound]; rw [if_pos (by omega)]; rfl
    have hgb : gBounds s.size true false false [.int .i64 1] = some (1, s.size, none) := by simp [gBounds, e1]
    have hx : (s.extract 1 s.size).data.toList = List.replicate m 43 := by
      rw [Lib.extract_data, hs1, List.drop_one, List.tail_cons, List.take_of_length_le (by simp; omega)]
    have hbt' : H'.bt ≤ H'.toks.length := hstep.btle hbt
    have hrep : List.replicate k plusT ++ [plusT] = List.replicate (k + 1) plusT := by rw [List.replicate_succ']
    rw [hrep] at hA'
    simp only [plusT] at hn hap
    rw [run_loop, wp_seqK]
    simp [L0_lex_Tokens, h0, ht, hne, hn, setPart, h4, App.unbox hA, App.unbox hA', gSetAll, hap, hgb]
    refine ih (s.extract 1 s.size) hx _ _ H' K (k + 1) o' ?_ ?_ hA' hbt' (by omega) ?_
    · simp
    · simp
    · intro l' g' H2 o2 f2 f3 f4
      exact he l' g' H2 o2 f2 f3 (by rw [show k + (m + 1) = k + 1 + m by omega]; exact f4)

theorem clean_rep (a b n k : Nat) : (List.replicate k plusT).mapM (clean a b (n + 2)) = some (List.replicate k plusT) := by
  induction k with
  | zero => rfl
  | succ k ih =>
    have h1 : clean a b (n + 2) plusT = some plusT := rfl
    rw [List.replicate_succ, List.mapM_cons, h1, ih]; rfl

theorem clean_tup2 {a b n : Nat} {x y x' y' : GV} (hx : clean a b n x = some x') (hy : clean a b n y = some y') : clean a b (n + 1) (.tup [x, y]) = some (.tup [x', y']) := by
  show (([x, y]).mapM (clean a b n)).map GV.tup = _
  simp only [List.mapM_cons, List.mapM_nil, hx, hy, Option.bind_eq_bind, Option.bind_some, Option.pure_def, Option.map_some]

theorem clean_sl {a b n sz : Nat} {xs : List GV} {tag : Tag} (h : xs.mapM (clean a b n) = some xs) : ∃ t, clean a b (n + 1) (.sl sz xs tag) = some (.sl sz xs t) :=
  ⟨_, by show (xs.mapM (clean a b n)).map _ = _; rw [h]; rfl⟩

theorem tokens_plus (s : ByteArray) (m : Nat) (hm : m ≤ 2000) (h1 : 1 ≤ m) (hs : s.data.toList = List.replicate m 43) (H : GH) : ∃ t, ecall T f_lex_Tokens [.str s] H = some (.tup [.sl 3 (List.replicate m plusT) t, .int .i64 0], H) := by
  have hsz : s.size = m := by rw [bs_size, hs]; simp
  have h20 : ¬ ((2000 : Int) < s.size) := by omega
  have h20' : ¬ (2000 < s.size) := by omega
  have key : optW (ecall T f_lex_Tokens [.str s] H) fun r => ∃ t, r = (.tup [.sl 3 (List.replicate m plusT) t, .int .i64 0], H) := by
    rw [ecall_1 T_lex_Tokens rfl (by simp [F_lex_Tokens]), wp_fin1]
    simp only [F_lex_Tokens, b_lex_Tokens]
    simp [h20, h20']
    rw [wp_blockK]
    refine tokens_loop m s hs _ _ _ _ 0 .nilsl ?_ ?_ .nil (Nat.le_refl _) (by omega) ?_
    · simp
    · simp
    · intro l' g' H' o' f2 f3 f4
      rw [Nat.zero_add] at f4
      have hok := f4.ok
      have hcl : ∃ t, clean H.objs.length H.toks.length 100 (.tup [o', .int .i64 0]) = some (.tup [.sl 3 (List.replicate m plusT) t, .int .i64 0]) := by
        generalize hxs : List.replicate m plusT = xs at f4 ⊢
        have hcr : ∀ n, xs.mapM (clean H.objs.length H.toks.length (n + 2)) = some xs := fun n => by rw [← hxs]; exact clean_rep _ _ n m
        cases f4 with
        | nil => exfalso; have := congrArg List.length hxs; simp at this; omega
        | exact =>
          obtain ⟨t, ht⟩ := clean_sl (sz := 3) (tag := .exact) (hcr 96)
          exact ⟨t, clean_tup2 (n := 99) ht rfl⟩
        | tok _ _ _ =>
          obtain ⟨t, ht⟩ := clean_sl (sz := 3) (tag := .tok _ _ _) (hcr 96)
          exact ⟨t, clean_tup2 (n := 99) ht rfl⟩
      obtain ⟨t, ht⟩ := hcl
      simp [f2, f3, hok, ht]
  obtain ⟨v, h, t, rfl⟩ := key
  exact ⟨t, h⟩
end Go.Proofs.YtlmiihdkgaljoaaGreatDoor
