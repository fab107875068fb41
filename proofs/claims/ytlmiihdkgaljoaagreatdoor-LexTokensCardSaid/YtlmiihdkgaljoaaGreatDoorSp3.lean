/- Own work: the shadow machine and what it shows, part Sp3. -/
import Derived.Test.YtlmiihdkgaljoaaGreatDoorSp2
set_option linter.all false

namespace Go.Proofs.YtlmiihdkgaljoaaGreatDoor
open Go.Sh
set_option maxRecDepth 100000

theorem one_ok (k n : Int) (t : List UInt8) (ht : t.length ≤ 200) (hn1 : -9223372036854775808 ≤ n) (hn2 : n ≤ 9223372036854775807) (H : GH) :
    ∃ x : ByteArray, ecall T f_lex_one [.agg [.int .i64 k, .int .i64 n, .str ⟨t.toArray⟩]] H = some (.tup [.str x, .bool (tokOk k n t)], H) ∧ (tokOk k n t = true → x.data.toList = tokText k n t) ∧ x.size ≤ 1000 := by
  have hdt : (⟨t.toArray⟩ : ByteArray).data.toList = t := by simp
  have hzt : (⟨t.toArray⟩ : ByteArray).size = t.length := ba_size t
  have hnm := value_Name ⟨t.toArray⟩ (by rw [hzt]; omega) H
  rw [hdt] at hnm
  have hcw := contains_ok wordsB .exact ⟨t.toArray⟩ (by decide) H
  have hmw : memB (⟨t.toArray⟩ : ByteArray) wordsB = decide (t ∈ wordsL) := by
    rw [Bool.eq_iff_iff, memB_iff, mem_words, hdt, decide_eq_true_eq]
  rw [hmw] at hcw
  have hcs := contains_ok signsB .exact ⟨t.toArray⟩ (by decide) H
  have hms : memB (⟨t.toArray⟩ : ByteArray) signsB = decide (t ∈ signsL) := by
    rw [Bool.eq_iff_iff, memB_iff, mem_signs, hdt, decide_eq_true_eq]
  rw [hms] at hcs
  have he0 : (⟨t.toArray⟩ : ByteArray) = ⟨#[]⟩ ↔ t = [] := by rw [← empty_iff, hdt]
  have hwo := words_ok H
  have hso := signs_ok H
  by_cases h1 : k = 1
  · subst h1
    refine ⟨⟨t.toArray⟩, ?_, fun _ => by simp [tokText], by omega⟩
    apply optW.eq
    rw [ecall_0 T_lex_one rfl (by simp [F_lex_one]), wp_fin1]
    by_cases hn : n = 0
    · cases hnv : nameL t <;> rw [hnv] at hnm
      · simp [F_lex_one, b_lex_one, hn, hnm, tokOk, hnv]
      · simp [F_lex_one, b_lex_one, hn, hnm, hwo, hcw, tokOk, hnv]
    · simp [F_lex_one, b_lex_one, hn, tokOk]
  · by_cases h2 : k = 2
    · subst h2
      refine ⟨⟨t.toArray⟩, ?_, fun _ => by simp [tokText], by omega⟩
      apply optW.eq
      rw [ecall_0 T_lex_one rfl (by simp [F_lex_one]), wp_fin1]
      by_cases hn : n = 0
      · simp [F_lex_one, b_lex_one, hn, hwo, hcw, tokOk]
      · simp [F_lex_one, b_lex_one, hn, tokOk]
    · by_cases h3 : k = 3
      · subst h3
        have hil := itoa_lib n hn1 hn2 H
        by_cases hte : t = []
        · have he := he0.2 hte
          by_cases ha : 0 ≤ n
          · by_cases hb : n ≤ 1099511627776
            · refine ⟨⟨(Lib.itoa n).toArray⟩, ?_, fun _ => by simp [tokText], by rw [ba_size]; have := itoa_len n (by omega) hb; omega⟩
              apply optW.eq
              rw [ecall_0 T_lex_one rfl (by simp [F_lex_one]), wp_fin1]
              simp only [he]
              simp [F_lex_one, b_lex_one, hil, hte, ha, hb, tokOk]
            · refine ⟨⟨(Lib.itoa n).toArray⟩, ?_, fun h => ?_, ?_⟩
              · apply optW.eq
                rw [ecall_0 T_lex_one rfl (by simp [F_lex_one]), wp_fin1]
                simp only [he]
                simp [F_lex_one, b_lex_one, hil, hte, ha, hb, tokOk]
              · simp [tokText]
              · rw [ba_size]
                have := nDigits_le 19 n.toNat (by omega) (by omega)
                unfold Lib.itoa
                rw [if_neg (by omega), Lib.decDigits_length]; omega
          · refine ⟨⟨(Lib.itoa n).toArray⟩, ?_, fun h => ?_, ?_⟩
            · apply optW.eq
              rw [ecall_0 T_lex_one rfl (by simp [F_lex_one]), wp_fin1]
              simp only [he]
              simp [F_lex_one, b_lex_one, hil, hte, ha, tokOk]
            · simp [tokText]
            · rw [ba_size]
              have := nDigits_le 19 n.natAbs (by omega) (by omega)
              unfold Lib.itoa
              rw [if_pos (by omega), List.length_cons, Lib.decDigits_length]; omega
        · have he : ¬ (⟨t.toArray⟩ : ByteArray) = ⟨#[]⟩ := fun h => hte (he0.1 h)
          refine ⟨⟨(Lib.itoa n).toArray⟩, ?_, fun h => ?_, ?_⟩
          · obtain ⟨tB, htB⟩ : ∃ tB : ByteArray, (⟨t.toArray⟩ : ByteArray) = tB := ⟨_, rfl⟩
            rw [htB] at he ⊢
            apply optW.eq
            rw [ecall_0 T_lex_one rfl (by simp [F_lex_one]), wp_fin1]
            simp [F_lex_one, b_lex_one, hil, he, hte, tokOk]
          · simp [tokText]
          · rw [ba_size]
            unfold Lib.itoa
            split
            · have := nDigits_le 19 n.natAbs (by omega) (by omega)
              rw [List.length_cons, Lib.decDigits_length]; omega
            · have := nDigits_le 19 n.toNat (by omega) (by omega)
              rw [Lib.decDigits_length]; omega
      · by_cases h4 : k = 4
        · subst h4
          have hvs := value_String 3 0 ⟨t.toArray⟩ (by omega) (by omega) (by omega) H
          have hvr := value_Right 3 0 ⟨t.toArray⟩ (by omega) (by omega) (by omega) H
          rw [hdt] at hvs hvr
          have hlen : (txtV 3 0 t).length ≤ 500 := by
            have := quo_len t
            unfold txtV
            split
            · simp [txtR]; omega
            · simp
          refine ⟨⟨(txtV 3 0 t).toArray⟩, ?_, fun _ => by simp [tokText], by rw [ba_size]; omega⟩
          apply optW.eq
          rw [ecall_0 T_lex_one rfl (by simp [F_lex_one]), wp_fin1]
          by_cases hn : n = 0
          · simp [F_lex_one, b_lex_one, hn, hvs, hvr, gFill, setPart, tokOk]
          · simp [F_lex_one, b_lex_one, hn, hvs, gFill, setPart, tokOk]
        · by_cases h5 : k = 5
          · subst h5
            refine ⟨⟨t.toArray⟩, ?_, fun _ => by simp [tokText], by omega⟩
            apply optW.eq
            rw [ecall_0 T_lex_one rfl (by simp [F_lex_one]), wp_fin1]
            by_cases hn : n = 0
            · simp [F_lex_one, b_lex_one, hn, hso, hcs, tokOk]
            · simp [F_lex_one, b_lex_one, hn, tokOk]
          · refine ⟨⟨#[]⟩, ?_, fun h => ?_, by show (0 : Nat) ≤ _; omega⟩
            · apply optW.eq
              rw [ecall_0 T_lex_one rfl (by simp [F_lex_one]), wp_fin1]
              simp [F_lex_one, b_lex_one, h1, h2, h3, h4, h5, tokOk]
            · simp [tokOk, h1, h2, h3, h4, h5] at h

theorem join_one (x : ByteArray) (tg : Tag) (hx : x.size ≤ 1000) (H : GH) : ecall T f_strings_Join [.sl 1 [.str x] tg, .str ⟨#[32]⟩] H = some (.str x, H) := by
  rw [ecall_lib T_strings_Join (by decide) (by simp [F_strings_Join])]
  have hj : Lib.join [x.data.toList] [32] = x.data.toList := by simp [Lib.join]
  have hl : x.data.toList.length ≤ 140737488355328 := by rw [← bs_size]; omega
  have hx2 : (⟨x.data.toList.toArray⟩ : ByteArray) = x := ba_ext (by simp)
  have h32 : (⟨#[32]⟩ : ByteArray).data.toList = [32] := rfl
  simp only [libH, libP, lJoin, F_strings_Join, strsOf, Option.map_some, Option.bind_some, List.map_cons, List.map_nil, h32, hj, List.length_cons, List.length_nil, hx2]
  have hc : 0 + 1 ≤ 140737488355328 ∧ x.data.toList.length ≤ 140737488355328 := ⟨by omega, hl⟩
  simp only [if_pos hc]
  rfl

theorem text1_ok (k n : Int) (t : List UInt8) (ht : t.length ≤ 200) (hn1 : -9223372036854775808 ≤ n) (hn2 : n ≤ 9223372036854775807) (H : GH) :
    ∃ x : ByteArray, ecall T f_lex_Text [.sl 3 [.agg [.int .i64 k, .int .i64 n, .str ⟨t.toArray⟩]] .exact] H = some (.tup [.str x, .bool (tokOk k n t)], H) ∧ (tokOk k n t = true → x.data.toList = tokText k n t) := by
  obtain ⟨x, hx, hxt, hxs⟩ := one_ok k n t ht hn1 hn2 H.over
  have w1 : IntKind.i64.wrap 1 = 1 := by decide
  have hix : gIx 1 (.int .i64 0) = some 0 := by decide
  cases hok : tokOk k n t <;> rw [hok] at hx hxt
  · refine ⟨⟨#[]⟩, ?_, fun h => by cases h⟩
    have hc : clean H.objs.length H.toks.length 100 (.tup [.str ⟨#[]⟩, .bool false]) = some (.tup [.str ⟨#[]⟩, .bool false]) := rfl
    apply optW.eq
    rw [ecall_1 T_lex_Text rfl (by simp [F_lex_Text]), wp_fin1]
    simp [F_lex_Text, b_lex_Text, run_loop, L0_lex_Text, hix, hx, setPart, hc]
  · refine ⟨x, ?_, hxt⟩
    have hc : clean H.objs.length H.toks.length 100 (.tup [.str x, .bool true]) = some (.tup [.str x, .bool true]) := rfl
    have hap : gAppend H.over 9 1 16 .nilsl (.sl 1 [.str x] .exact) = some (.sl 1 [.str x] (.tok H.over.toks.length 1 (some 9)), { H.over with toks := H.over.toks ++ [1] }) := by
      simp [gAppend, gNews, room, maxLen]
    have hj := join_one x (.tok H.over.toks.length 1 (some 9)) hxs { H.over with toks := H.over.toks ++ [1] }
    simp at hap hj
    apply optW.eq
    rw [ecall_1 T_lex_Text rfl (by simp [F_lex_Text]), wp_fin1]
    simp [F_lex_Text, b_lex_Text, run_loop, L0_lex_Text, hix, hx, setPart, hc, gSetAll, hap, hj, w1]
end Go.Proofs.YtlmiihdkgaljoaaGreatDoor

namespace Go.Proofs.YtlmiihdkgaljoaaGreatDoor
open Go.Sh
set_option maxRecDepth 100000

theorem str_beq {a b : ByteArray} : (a == b) = true ↔ a = b := by
  rcases a with ⟨a⟩; rcases b with ⟨b⟩
  constructor
  · intro h
    have h2 : (a == b) = true := h
    rw [beq_iff_eq.1 h2]
  · intro h
    injection h with h
    subst h
    show (a == a) = true
    exact beq_self_eq_true _

theorem tk_beq (v : Tk) : leavesEq [.int .i64, .int .i64, .str] [.int .i64 v.1, .int .i64 v.2.1, .str ⟨v.2.2.toArray⟩] [.int .i64 v.1, .int .i64 v.2.1, .str ⟨v.2.2.toArray⟩] = some true := by
  have : ((⟨v.2.2.toArray⟩ : ByteArray) == ⟨v.2.2.toArray⟩) = true := str_beq.2 rfl
  simp [leavesEq, leafEq, this]

theorem same_loop (all : List Tk) (ta tb : Tag) (hall : all.length ≤ 1000) (xs : List Tk) : ∀ (j : Nat) (_ : all.drop j = xs) (l : List GV) (g : Nat) (H : GH) (K : GExit × St → Prop)
    (_ : lget l 0 = .sl 3 (all.map tkG) ta) (_ : lget l 1 = .sl 3 (all.map tkG) tb) (_ : lget l 12 = .int .i64 all.length) (_ : lget l 13 = .int .i64 j)
    (_ : ∀ (l' : List GV), K (.exit 0, ⟨⟨l', g⟩, H⟩)),
    optW (erun T (.loop L0_hedgerowlaw18_same) ⟨⟨l, g⟩, H⟩) K := by
  induction xs with
  | nil =>
    intro j hd l g H K h0 h1 h12 h13 he
    have hle : all.length ≤ j := by simpa using hd
    have hge : ¬ ((j : Int) < all.length) := by omega
    have hge' : ¬ (j < all.length) := by omega
    rw [run_loop]
    simp [L0_hedgerowlaw18_same, h12, h13, hge, hge']
    exact he _
  | cons x xs ih =>
    intro j hd l g H K h0 h1 h12 h13 he
    have hj : j < all.length := by
      rcases Nat.lt_or_ge j all.length with h1 | h1
      · exact h1
      · rw [List.drop_eq_nil_of_le h1] at hd; cases hd
    have hgv : all[j]? = some x := by
      have := congrArg (·[0]?) hd
      simpa using this
    have hd' : all.drop (j + 1) = xs := by
      have := congrArg List.tail hd
      simpa using this
    have hgd : ∀ h : j < all.length, all[j]'h = x := fun h => by rw [List.getElem?_eq_getElem h] at hgv; exact Option.some.inj hgv
    have hlt : (j : Int) < all.length := by omega
    have hix : gIx all.length (.int .i64 (j : Int)) = some j := by simp only [gIx]; rw [if_pos (by omega)]; simp
    have hw : IntKind.i64.wrap ((j : Int) + 1) = (j : Int) + 1 := wrap_i64' (by omega) (by omega)
    have hb := tk_beq x
    rw [run_loop, wp_seqK]
    simp [L0_hedgerowlaw18_same, h0, h1, h12, h13, hlt, hj, hix, hgv, hgd, tkG, tokG, hb, hw]
    refine ih (j + 1) hd' _ _ H K ?_ ?_ ?_ ?_ ?_
    · simp [h0]
    · simp [h1]
    · simp [h12]
    · simp
    · exact he

theorem same_ok (L : List Tk) (hL : L.length ≤ 1000) (u v : GV) (hu : Elems 3 u (L.map tkG)) (hv : Elems 3 v (L.map tkG)) (H : GH) : ecall T f_hedgerowlaw18_same [u, v] H = some (.bool true, H) := by
  apply optW.eq
  rw [ecall_0 T_hedgerowlaw18_same rfl (by simp [F_hedgerowlaw18_same]), wp_fin1]
  by_cases h0 : L = []
  · subst h0
    have hz : ∀ w, Elems 3 w ([].map tkG) → w = .nilsl ∨ ∃ t, w = .sl 3 [] t := by
      intro w hw
      generalize hxs : ([] : List Tk).map tkG = xs at hw
      cases hw with
      | nil => exact .inl rfl
      | sl xs t => simp at hxs; subst hxs; exact .inr ⟨t, rfl⟩
    rcases hz u hu with rfl | ⟨t, rfl⟩ <;> rcases hz v hv with rfl | ⟨t', rfl⟩ <;>
      simp [F_hedgerowlaw18_same, b_hedgerowlaw18_same, run_loop, L0_hedgerowlaw18_same]
  · have hn : ∃ x, (L.map tkG)[0]? = some x := by
      cases L with
      | nil => exact absurd rfl h0
      | cons a L => exact ⟨_, rfl⟩
    obtain ⟨x, hx⟩ := hn
    obtain ⟨ta, rfl⟩ := hu.is_sl hx
    obtain ⟨tb, rfl⟩ := hv.is_sl hx
    simp only [F_hedgerowlaw18_same, b_hedgerowlaw18_same]
    simp
    rw [wp_seqK, wp_blockK]
    refine same_loop L ta tb hL L 0 rfl _ _ _ _ ?_ ?_ ?_ ?_ ?_
    · simp
    · simp
    · simp
    · simp
    · intro l'; simp

/-! ## Blanks put between -/

theorem pad_loop (n : Nat) (hn : n ≤ 100) (d : Nat) : ∀ (i : Nat) (_ : i + d = n) (l : List GV) (g : Nat) (H : GH) (K : GExit × St → Prop) (w : ByteArray)
    (_ : lget l 5 = .str w) (_ : lget l 49 = .int .i64 n) (_ : lget l 50 = .int .i64 i) (_ : w.size + d ≤ 50000)
    (_ : ∀ (l' : List GV) (w' : ByteArray), (∀ t, t ≠ 5 → t ≠ 50 → t ≠ 51 → t ≠ 52 → t ≠ 53 → t ≠ 54 → lget l' t = lget l t) → lget l' 5 = .str w' → w'.data.toList = w.data.toList ++ List.replicate d 32 → K (.exit 2, ⟨⟨l', g⟩, H⟩)),
    optW (erun T (.loop L0_hedgerowlaw18_LexBlanks) ⟨⟨l, g⟩, H⟩) K := by
  induction d with
  | zero =>
    intro i hi l g H K w h5 h49 h50 hw he
    have hin : i = n := by omega
    subst hin
    rw [run_loop]
    simp [L0_hedgerowlaw18_LexBlanks, h49, h50]
    exact he _ w (fun t _ _ _ _ _ _ => by simp [*]) (by simp [h5]) (by simp)
  | succ d ih =>
    intro i hi l g H K w h5 h49 h50 hw he
    have hlt : (i : Int) < n := by omega
    have hlt' : i < n := by omega
    have hwr : IntKind.i64.wrap ((i : Int) + 1) = (i : Int) + 1 := wrap_i64' (by omega) (by omega)
    have ha : gStr .add w (⟨#[32]⟩ : ByteArray) = _ := add_ok (by show _ + (1 : Nat) ≤ _; omega)
    have hz : (w ++ (⟨#[32]⟩ : ByteArray)).size = w.size + 1 := by rw [ByteArray.size_append]; rfl
    rw [run_loop, wp_seqK]
    simp [L0_hedgerowlaw18_LexBlanks, h5, h49, h50, hlt, hlt', ha, hwr]
    refine ih (i + 1) (by omega) _ g H K (w ++ (⟨#[32]⟩ : ByteArray)) ?_ ?_ ?_ (by rw [hz]; omega) ?_
    · simp
    · simp [h49]
    · simp
    · intro l' w' e1 e2 e3
      refine he l' w' (fun t a b c d e f => ?_) e2 ?_
      · rw [e1 t a b c d e f]; simp [*]
      · rw [e3]
        simp [List.replicate_succ]

theorem tokText_len {k n : Int} {t : List UInt8} (hok : tokOk k n t = true) (ht : t.length ≤ 60) : (tokText k n t).length ≤ 200 := by
  unfold tokText
  split
  · rename_i h3
    subst h3
    simp [tokOk] at hok
    have := itoa_len n (by omega) (by omega)
    omega
  · split
    · have := quo_len t
      unfold txtV
      split
      · simp [txtR]; omega
      · simp
    · omega

theorem wide_snoc (bl : List (Nat × Tk)) (n : Nat) (v : Tk) : wideL (bl ++ [(n, v)]) = wideL bl ++ List.replicate n 32 ++ tkText v := by
  induction bl with
  | nil => simp [wideL]
  | cons b bl ih => obtain ⟨m, w⟩ := b; simp [wideL, ih]

/-- What the blanks' row tells. -/
def u8i (x : Int) : GV := .int .u8 x

theorem Elems.unbox {sz : Nat} {s : GV} {xs : List GV} (h : Elems sz s xs) (t : Nat) : unbox t s = s := by cases h <;> rfl

theorem blanks_loop (all : List Tk) (ta : Tag) (hall : all.length ≤ 30) (hbd : ∀ v ∈ all, -9223372036854775808 ≤ v.2.1 ∧ v.2.1 ≤ 9223372036854775807 ∧ v.2.2.length ≤ 9223372036854775807) (Bs : List Int) (bv : GV) (hbv : Elems 1 bv (Bs.map u8i)) (hB : ∀ x ∈ Bs, 0 ≤ x ∧ x ≤ 255) (hBl : Bs.length ≤ 9223372036854775807) (u : GV) (xs : List Tk) :
    ∀ (j : Nat) (_ : all.drop j = xs) (l : List GV) (g : Nat) (H : GH) (K : GExit × St → Prop) (w : ByteArray) (bl : List (Nat × Tk))
    (_ : lget l 0 = u) (_ : lget l 1 = bv) (_ : lget l 5 = .str w) (_ : lget l 18 = .sl 3 (all.map tkG) ta) (_ : lget l 19 = .int .i64 all.length) (_ : lget l 20 = .int .i64 j)
    (_ : w.data.toList = wideL bl) (_ : bl.map (·.2) ++ xs = all) (_ : ∀ b ∈ bl, 1 ≤ b.1 ∧ tkOk b.2 = true ∧ b.2.2.2.length ≤ 200) (_ : w.size ≤ 300 * j) (_ : j ≤ all.length)
    (_ : ∀ (l' : List GV) (g' : Nat), lget l' 4 = .bool true → K (.ret, ⟨⟨l', g'⟩, H⟩))
    (_ : ∀ (l' : List GV) (g' : Nat) (w' : ByteArray) (bl' : List (Nat × Tk)), lget l' 0 = u → lget l' 5 = .str w' → w'.data.toList = wideL bl' → bl'.map (·.2) = all → (∀ b ∈ bl', 1 ≤ b.1 ∧ tkOk b.2 = true ∧ b.2.2.2.length ≤ 200) → w'.size ≤ 10000 → K (.exit 0, ⟨⟨l', g'⟩, H⟩)),
    optW (erun T (.loop L1_hedgerowlaw18_LexBlanks) ⟨⟨l, g⟩, H⟩) K := by
  induction xs with
  | nil =>
    intro j hd l g H K w bl h0 h1 h5 h18 h19 h20 hw hbl hblo hwz hjl hr he
    have hle : all.length ≤ j := by simpa using hd
    have hge : ¬ ((j : Int) < all.length) := by omega
    have hge' : ¬ (j < all.length) := by omega
    rw [run_loop]
    simp [L1_hedgerowlaw18_LexBlanks, h19, h20, hge, hge']
    exact he _ g w bl (by simp [h0]) (by simp [h5]) hw (by simpa using hbl) hblo (by omega)
  | cons x xs ih =>
    intro j hd l g H K w bl h0 h1 h5 h18 h19 h20 hw hbl hblo hwz hjl hr he
    have hj : j < all.length := by
      rcases Nat.lt_or_ge j all.length with h1 | h1
      · exact h1
      · rw [List.drop_eq_nil_of_le h1] at hd; cases hd
    have hgv : all[j]? = some x := by
      have := congrArg (·[0]?) hd
      simpa using this
    have hd' : all.drop (j + 1) = xs := by
      have := congrArg List.tail hd
      simpa using this
    have hxm : x ∈ all := List.mem_of_getElem? hgv
    have hgd : ∀ h : j < all.length, all[j]'h = x := fun h => by rw [List.getElem?_eq_getElem h] at hgv; exact Option.some.inj hgv
    have hlt : (j : Int) < all.length := by omega
    have hix : gIx all.length (.int .i64 (j : Int)) = some j := by simp only [gIx]; rw [if_pos (by omega)]; simp
    have hwj : IntKind.i64.wrap ((j : Int) + 1) = (j : Int) + 1 := wrap_i64' (by omega) (by omega)
    obtain ⟨k, n, t⟩ := x
    obtain ⟨hn1, hn2, htl⟩ := hbd _ hxm
    simp only at hn1 hn2 htl
    have hzt : (⟨t.toArray⟩ : ByteArray).size = t.length := ba_size t
    obtain ⟨tB, htB⟩ : ∃ tB : ByteArray, (⟨t.toArray⟩ : ByteArray) = tB := ⟨_, rfl⟩
    rw [htB] at hzt
    by_cases h60 : (60 : Int) < tB.size
    · have h60' : 60 < tB.size := by omega
      rw [run_loop, wp_seqK]
      simp [L1_hedgerowlaw18_LexBlanks, h18, h19, h20, hlt, hj, hix, hgv, hgd, tkG, tokG, htB, setPart, h60, h60']
      exact hr _ _ (by simp)
    · have h60' : ¬ 60 < tB.size := by omega
      obtain ⟨y, hy, hyt⟩ := text1_ok k n t (by omega) hn1 hn2 H
      rw [htB] at hy
      cases hok : tokOk k n t <;> rw [hok] at hy hyt
      · rw [run_loop, wp_seqK]
        simp [L1_hedgerowlaw18_LexBlanks, h18, h19, h20, hlt, hj, hix, hgv, hgd, tkG, tokG, htB, setPart, h60, h60', gSetAll, hy]
        exact hr _ _ (by simp)
      · have hyl := tokText_len hok (by omega)
        have hyz : y.size ≤ 200 := by rw [bs_size, hyt rfl]; exact hyl
        -- what is done with so many blanks
        have fin : ∀ (c : Nat), 1 ≤ c → c ≤ 4 → ∀ (l' : List GV) (g' : Nat), lget l' 0 = u → lget l' 1 = bv → lget l' 5 = .str w → lget l' 8 = .str y → lget l' 18 = .sl 3 (all.map tkG) ta → lget l' 19 = .int .i64 all.length → lget l' 20 = .int .i64 j → lget l' 49 = .int .i64 (c : Int) → lget l' 50 = .int .i64 0 →
            optW (erun T (.loop L0_hedgerowlaw18_LexBlanks) ⟨⟨l', g'⟩, H⟩)
              (blockP 2 (seqP (erun T (.region [⟨(some 55), none, .id, [.slot 5], none⟩, ⟨(some 56), none, .id, [.slot 8], none⟩, ⟨(some 57), none, .bin .add, [.slot 55, .slot 56], none⟩, ⟨(some 5), none, .id, [.slot 57], none⟩]))
                (blockP 1 (seqP (erun T (.region [⟨(some 58), none, .bin .add, [.slot 20, .val (.int .i64 1)], none⟩, ⟨(some 20), none, .id, [.slot 58], none⟩])) (seqP (erun T (.loop L1_hedgerowlaw18_LexBlanks)) K))))) := by
          intro c hc1 hc4 l' g' e0 e1 e5 e8 e18 e19 e20 e49 e50
          refine pad_loop c (by omega) c 0 (by omega) _ _ _ _ w e5 e49 (by simpa using e50) (by omega) ?_
          · intro l2 w2 f1 f2 f3
            have hw2z : w2.size = w.size + c := by rw [bs_size, f3, List.length_append, ← bs_size]; simp
            have g0 := f1 0 (by omega) (by omega) (by omega) (by omega) (by omega) (by omega)
            have g1 := f1 1 (by omega) (by omega) (by omega) (by omega) (by omega) (by omega)
            have g8 := f1 8 (by omega) (by omega) (by omega) (by omega) (by omega) (by omega)
            have g18 := f1 18 (by omega) (by omega) (by omega) (by omega) (by omega) (by omega)
            have g19 := f1 19 (by omega) (by omega) (by omega) (by omega) (by omega) (by omega)
            have g20 := f1 20 (by omega) (by omega) (by omega) (by omega) (by omega) (by omega)
            simp [e0, e1, e8, e18, e19, e20] at g0 g1 g8 g18 g19 g20
            have ha : gStr .add w2 y = _ := add_ok (by omega)
            have hz : (w2 ++ y).size ≤ 300 * (j + 1) := by rw [ByteArray.size_append]; omega
            simp [f2, g8, g20, ha, hwj]
            refine ih (j + 1) hd' _ _ H K (w2 ++ y) (bl ++ [(c, (k, n, t))]) ?_ ?_ ?_ ?_ ?_ ?_ ?_ ?_ ?_ hz (by omega) hr he
            · simp [g0]
            · simp [g1]
            · simp
            · simp [g18]
            · simp [g19]
            · simp
            · rw [wide_snoc, ByteArray.data_append, Array.toList_append, f3, hw, hyt rfl]; rfl
            · rw [← hbl]; simp
            · intro b hb
              rcases List.mem_append.1 hb with hb | hb
              · exact hblo b hb
              · simp at hb; subst hb
                exact ⟨hc1, hok, by show t.length ≤ 200; omega⟩
        rw [run_loop, wp_seqK]
        have hlb : ∀ (call : Nat → List GV → GH → Option (GV × GH)) (l : List GV) (g : Nat) (H : GH), geff call .lensl [bv] ⟨l, g⟩ H = some ⟨.int .i64 (Bs.map u8i).length, none, H, g⟩ := hbv.len
        have hub : ∀ t, unbox t bv = bv := Elems.unbox hbv
        by_cases hjb : (j : Int) < Bs.length
        · have hjb' : j < Bs.length := by omega
          have hgb : (Bs.map u8i)[j]? = some (u8i Bs[j]) := by simp [hjb']
          obtain ⟨tb, rfl⟩ := hbv.is_sl hgb
          have hixb : gIx Bs.length (.int .i64 (j : Int)) = some j := by simp only [gIx]; rw [if_pos (by omega)]; simp
          obtain ⟨hb0, hb1⟩ := hB Bs[j] (List.getElem_mem hjb')
          obtain ⟨q, hq, hq4⟩ : ∃ q : Nat, Bs[j].tmod 4 = (q : Int) ∧ q < 4 := by
            obtain ⟨z, hz⟩ : ∃ z : Nat, Bs[j] = (z : Int) := ⟨Bs[j].toNat, by omega⟩
            exact ⟨z % 4, by rw [hz]; exact (Int.ofNat_tmod z 4).symm, Nat.mod_lt _ (by omega)⟩
          have hrem : gInt .rem .u8 Bs[j] 4 = some (.int .u8 (q : Int)) := by simp only [gInt]; rw [if_neg (by omega), hq]
          have wq : IntKind.i64.wrap (q : Int) = q := wrap_i64' (by omega) (by omega)
          have wq1 : IntKind.i64.wrap (1 + (q : Int)) = 1 + (q : Int) := wrap_i64' (by omega) (by omega)
          simp [L1_hedgerowlaw18_LexBlanks, h1, h18, h19, h20, hlt, hj, hix, hgv, hgd, tkG, tokG, htB, setPart, h60, h60', gSetAll, hy, hjb, hjb', hixb, u8i, hrem, wq, wq1]
          rw [wp_seqK, wp_blockK, wp_seqK, wp_blockK]
          refine fin (1 + q) (by omega) (by omega) _ _ ?_ ?_ ?_ ?_ ?_ ?_ ?_ ?_ ?_
          · simp [h0]
          · simp [h1, u8i]
          · simp [h5]
          · simp
          · simp [h18]
          · simp [h19]
          · simp [h20]
          · simp
          · simp
        · have hjb' : ¬ j < Bs.length := by omega
          simp [L1_hedgerowlaw18_LexBlanks, h1, h18, h19, h20, hlt, hj, hix, hgv, hgd, tkG, tokG, htB, setPart, h60, h60', gSetAll, hy, hjb, hjb', hlb, hub]
          rw [wp_seqK, wp_blockK, wp_seqK, wp_blockK]
          refine fin 1 (by omega) (by omega) _ _ ?_ ?_ ?_ ?_ ?_ ?_ ?_ ?_ ?_
          · simp [h0]
          · simp [h1]
          · simp [h5]
          · simp
          · simp [h18]
          · simp [h19]
          · simp [h20]
          · simp
          · simp
end Go.Proofs.YtlmiihdkgaljoaaGreatDoor

namespace Go.Proofs.YtlmiihdkgaljoaaGreatDoor
open Go.Sh
set_option maxRecDepth 100000

theorem blanks_ok (L : List Tk) (u : GV) (hu : Elems 3 u (L.map tkG)) (hbd : ∀ v ∈ L, -9223372036854775808 ≤ v.2.1 ∧ v.2.1 ≤ 9223372036854775807 ∧ v.2.2.length ≤ 9223372036854775807) (hLl : L.length ≤ 9223372036854775807)
    (Bs : List Int) (bv : GV) (hbv : Elems 1 bv (Bs.map u8i)) (hB : ∀ x ∈ Bs, 0 ≤ x ∧ x ≤ 255) (hBl : Bs.length ≤ 9223372036854775807) (H : GH) : ecall T f_hedgerowlaw18_LexBlanks [u, bv] H = some (.bool true, H) := by
  have hlu : ∀ (call : Nat → List GV → GH → Option (GV × GH)) (l : List GV) (g : Nat) (H : GH), geff call .lensl [u] ⟨l, g⟩ H = some ⟨.int .i64 L.length, none, H, g⟩ := by
    intro call l g H
    have := hu.len call l g H
    simpa using this
  have huu : ∀ t, unbox t u = u := Elems.unbox hu
  have hub : ∀ t, unbox t bv = bv := Elems.unbox hbv
  have huo : u.ok = true := hu.ok
  have fin : ∀ (w : ByteArray) (bl : List (Nat × Tk)), w.data.toList = wideL bl → bl.map (·.2) = L → (∀ b ∈ bl, 1 ≤ b.1 ∧ tkOk b.2 = true ∧ b.2.2.2.length ≤ 200) → L.length ≤ 30 → w.size ≤ 1900 →
      gStr .add w (⟨#[32, 32]⟩ : ByteArray) = some (.str (w ++ (⟨#[32, 32]⟩ : ByteArray))) ∧ ∃ v, v.ok = true ∧ (∀ t, unbox t v = v) ∧ ecall T f_lex_Tokens [.str (w ++ (⟨#[32, 32]⟩ : ByteArray))] H = some (.tup [v, .int .i64 0], H) ∧ ecall T f_hedgerowlaw18_same [u, v] H = some (.bool true, H) := by
    intro w bl hw hbl hblo hL hwz
    refine ⟨add_ok (by show _ + (2 : Nat) ≤ _; omega), ?_⟩
    have hz2 : (w ++ (⟨#[32, 32]⟩ : ByteArray)).size = w.size + 2 := by rw [ByteArray.size_append]; rfl
    have hll : bl.length ≤ 30 := by
      have := congrArg List.length hbl
      simp at this; omega
    obtain ⟨v, hv, ht⟩ := tokens_blocks (w ++ (⟨#[32, 32]⟩ : ByteArray)) (by omega) 2 (by omega) bl hblo (by omega) (by rw [ByteArray.data_append, Array.toList_append, hw]; rfl) H
    rw [hbl] at hv
    exact ⟨v, hv.ok, Elems.unbox hv, ht, same_ok L (by omega) u v hu hv H⟩
  apply optW.eq
  rw [ecall_0 T_hedgerowlaw18_LexBlanks rfl (by simp [F_hedgerowlaw18_LexBlanks]), wp_fin1]
  simp only [F_hedgerowlaw18_LexBlanks, b_hedgerowlaw18_LexBlanks]
  by_cases h30 : (30 : Int) < L.length
  · have h30' : 30 < L.length := by omega
    simp [fixed_ok, huu, hlu, h30, h30']
  · have h30' : ¬ 30 < L.length := by omega
    by_cases hL0 : L = []
    · subst hL0
      obtain ⟨ha, v, hvo, hvu, ht, hs⟩ := fin ⟨#[]⟩ [] rfl rfl (by simp) (by simp) (by show (0 : Nat) ≤ _; omega)
      have hz : (⟨#[]⟩ : ByteArray).size = 0 := rfl
      simp only [List.length_nil] at hlu
      simp [fixed_ok, huu, hlu, run_loop, L1_hedgerowlaw18_LexBlanks, hz, ha, ht, hs, hvo, hvu, huo]
    · have hn : ∃ x, (L.map tkG)[0]? = some x := by
        cases L with
        | nil => exact absurd rfl hL0
        | cons a L => exact ⟨_, rfl⟩
      obtain ⟨x, hx⟩ := hn
      obtain ⟨ta, hta⟩ := hu.is_sl hx
      simp [fixed_ok, huu, hlu, h30, h30']
      rw [wp_seqK, wp_blockK]
      refine blanks_loop L ta (by omega) hbd Bs bv hbv hB hBl u L 0 rfl _ _ H _ ⟨#[]⟩ [] ?_ ?_ ?_ ?_ ?_ ?_ rfl (by simp) (by simp) (Nat.le_refl _) (by omega) ?_ ?_
      · simp
      · simp
      · simp
      · simp [hta]
      · simp
      · simp
      · intro l' g' e4
        simp [e4]
      · intro l' g' w bl e0 e5 hw hbl hblo hwz
        by_cases h19 : (1900 : Int) < w.size
        · have h19' : 1900 < w.size := by omega
          simp [e5, h19, h19']
        · have h19' : ¬ 1900 < w.size := by omega
          obtain ⟨ha, v, hvo, hvu, ht, hs⟩ := fin w bl hw hbl hblo (by omega) (by omega)
          simp [e0, e5, h19, h19', ha, ht, hs, hvo, hvu, huo, huu]
end Go.Proofs.YtlmiihdkgaljoaaGreatDoor
