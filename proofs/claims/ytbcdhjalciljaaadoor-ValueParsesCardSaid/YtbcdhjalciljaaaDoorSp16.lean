/- Own work, over the shadow machine: VSpec16. -/
import Derived.Test.YtbcdhjalciljaaaDoorSp15
import Derived.Test.YtbcdhjalciljaaaDoorOrd
set_option linter.all false
namespace Go.Proofs.YtbcdhjalciljaaaDoor
open Go.Sh
set_option maxRecDepth 100000

theorem bare_loop (s : ByteArray) (hs : s.size ≤ 1000) (n : Nat) : ∀ (cs : List UInt8) (_ : cs.length ≤ n) (i : Nat) (_ : s.data.toList.drop i = cs) (l : List GV) (g : Nat) (H : GH) (K : GExit × St → Prop) (acc : ByteArray)
    (_ : lget l 4 = .str s) (_ : lget l 5 = .str acc) (_ : lget l 6 = .int .i64 i) (_ : acc.size + cs.length ≤ 10000)
    (_ : ∀ (l' : List GV) (acc' : ByteArray), lget l' 0 = lget l 0 → lget l' 2 = lget l 2 → lget l' 3 = lget l 3 → lget l' 4 = .str s → lget l' 5 = .str acc' → acc'.data.toList = acc.data.toList ++ unqL cs → K (.exit 0, ⟨⟨l', g⟩, H⟩)),
    optW (erun T (.loop L0_hedgerowref01_Parse) ⟨⟨l, g⟩, H⟩) K := by
  have hsz := bs_size s
  have nil_case : ∀ (i : Nat) (_ : s.data.toList.drop i = []) (l : List GV) (g : Nat) (H : GH) (K : GExit × St → Prop) (acc : ByteArray)
    (_ : lget l 4 = .str s) (_ : lget l 5 = .str acc) (_ : lget l 6 = .int .i64 i)
    (_ : ∀ (l' : List GV) (acc' : ByteArray), lget l' 0 = lget l 0 → lget l' 2 = lget l 2 → lget l' 3 = lget l 3 → lget l' 4 = .str s → lget l' 5 = .str acc' → acc'.data.toList = acc.data.toList ++ unqL [] → K (.exit 0, ⟨⟨l', g⟩, H⟩)),
    optW (erun T (.loop L0_hedgerowref01_Parse) ⟨⟨l, g⟩, H⟩) K := by
    intro i hd l g H K acc h4 h5 h6 he
    have hlen := drop_none hd
    have hge : ¬ ((i : Int) < s.size) := by omega
    have hge' : ¬ (i < s.size) := by omega
    rw [run_loop]
    simp [L0_hedgerowref01_Parse, h4, h6, hge, hge']
    exact he _ acc (by simp) (by simp) (by simp) (by simp [h4]) (by simp [h5]) (by simp [unqL])
  induction n with
  | zero =>
    intro cs hn i hd l g H K acc h4 h5 h6 hl he
    have : cs = [] := List.eq_nil_of_length_eq_zero (by omega)
    subst this
    exact nil_case i hd l g H K acc h4 h5 h6 he
  | succ n ih =>
    intro cs hn i hd l g H K acc h4 h5 h6 hl he
    cases cs with
    | nil => exact nil_case i hd l g H K acc h4 h5 h6 he
    | cons c cs =>
      obtain ⟨hg, hi, hd'⟩ := drop_some hd
      obtain ⟨hgb, hxs, hxz⟩ := slice1 hd
      have hlt : (i : Int) < s.size := by omega
      have hlt' : i < s.size := by omega
      have hix := ix_ok hlt
      have hg' : s.data[i]? = some c := by simpa using hg
      have hgd : ∀ h : i < s.data.size, s.data[i]'h = c := fun h => by rw [Array.getElem?_eq_getElem h] at hg'; exact Option.some.inj hg'
      have hw : IntKind.i64.wrap ((i : Int) + 1) = (i : Int) + 1 := wrap_i64' (by omega) (by omega)
      have hw2 : IntKind.i64.wrap ((i : Int) + 1 + 1) = (i : Int) + 1 + 1 := wrap_i64' (by omega) (by omega)
      simp only [List.length_cons] at hn hl
      have a2 : gStr .add acc (s.extract i (i + 1)) = _ := add_ok (by rw [hxz]; omega)
      have z2 : (acc ++ s.extract i (i + 1)).size = acc.size + 1 := by rw [ByteArray.size_append, hxz]
      rw [run_loop, wp_seqK]
      by_cases h92 : c = 92
      · subst h92
        have n92 : (92 : UInt8).toNat = 92 := rfl
        cases cs with
        | nil =>
          have hle := drop_none hd'
          have hlt2 : ¬ ((i : Int) + 1 < s.size) := by omega
          have hlt2' : ¬ (i + 1 < s.size) := by omega
          simp [L0_hedgerowref01_Parse, h4, h5, h6, hlt, hlt', hix, str_get, hg', hgd, hw, hlt2, hlt2', a2, hgb]
          refine ih [] (by simp) (i + 1) hd' _ g H K (acc ++ s.extract i (i + 1)) ?_ ?_ ?_ (by rw [z2]; simp; omega) ?_
          · simp [h4]
          · simp
          · simp
          · intro l' acc' e0 e2 e3 e4 e5 e6
            refine he l' acc' (by rw [e0]; simp) (by rw [e2]; simp) (by rw [e3]; simp) e4 e5 ?_
            rw [e6, ByteArray.data_append, Array.toList_append, hxs]
            simp [unqL]
        | cons d r =>
          obtain ⟨hg2, hi2, hd2⟩ := drop_some hd'
          obtain ⟨hgb2, hxs2, hxz2⟩ := slice1 hd'
          have hc1 : ((i + 1 : Nat) : Int) = (i : Int) + 1 := by omega
          rw [hc1] at hgb2
          have hlt2 : ((i : Int) + 1 < s.size) := by omega
          have hlt2' : (i + 1 < s.size) := by omega
          have a3 : gStr .add acc (s.extract (i + 1) (i + 1 + 1)) = _ := add_ok (by rw [hxz2]; omega)
          have z3 : (acc ++ s.extract (i + 1) (i + 1 + 1)).size = acc.size + 1 := by rw [ByteArray.size_append, hxz2]
          simp only [List.length_cons] at hn hl
          simp [L0_hedgerowref01_Parse, h4, h5, h6, hlt, hlt', hix, str_get, hg', hgd, hw, hw2, hlt2, hlt2', a3, hgb2]
          refine ih r (by omega) (i + 2) hd2 _ g H K (acc ++ s.extract (i + 1) (i + 1 + 1)) ?_ ?_ ?_ (by rw [z3]; omega) ?_
          · simp [h4]
          · simp
          · simp; omega
          · intro l' acc' e0 e2 e3 e4 e5 e6
            refine he l' acc' (by rw [e0]; simp) (by rw [e2]; simp) (by rw [e3]; simp) e4 e5 ?_
            rw [e6, ByteArray.data_append, Array.toList_append, hxs2]
            simp [unqL]
      · have n1 : ¬ c.toNat = 92 := fun h => h92 (UInt8.toNat_inj.1 h)
        have m1 : ¬ (c.toNat : Int) = 92 := by omega
        simp [L0_hedgerowref01_Parse, h4, h5, h6, hlt, hlt', hix, str_get, hg', hgd, hw, n1, m1, a2, hgb]
        refine ih cs (by omega) (i + 1) hd' _ g H K (acc ++ s.extract i (i + 1)) ?_ ?_ ?_ (by rw [z2]; omega) ?_
        · simp [h4]
        · simp
        · simp
        · intro l' acc' e0 e2 e3 e4 e5 e6
          refine he l' acc' (by rw [e0]; simp) (by rw [e2]; simp) (by rw [e3]; simp) e4 e5 ?_
          rw [e6, ByteArray.data_append, Array.toList_append, hxs]
          cases cs with
          | nil => simp [unqL]
          | cons d r => simp [unqL, h92]

theorem cand_loop (s : ByteArray) (all : List (Int × Int × List UInt8)) (t : Tag) (hall : all.length ≤ 100) (hsm : ∀ v ∈ all, v.2.2.length ≤ 1000) (g2 : Nat) (vs : List (Int × Int × List UInt8)) : ∀ (j : Nat) (_ : all.drop j = vs) (l : List GV) (g : Nat) (H : GH) (K : GExit × St → Prop)
    (_ : lget l 0 = .str s) (_ : lget l 2 = .lbox g2 [.int .i64 0, .int .i64 0, .str ⟨#[]⟩]) (_ : lget l 63 = .sl 3 (all.map val3) t) (_ : lget l 64 = .int .i64 all.length) (_ : lget l 65 = .int .i64 j)
    (_ : ∀ (l' : List GV) (g' : Nat) v, vs.find? (fun v => right3 v && (txt3 v == s.data.toList)) = some v → lget l' 2 = .lbox g2 (val3 v).cells → lget l' 3 = .bool true → K (.ret, ⟨⟨l', g'⟩, H⟩))
    (_ : ∀ (l' : List GV) (g' : Nat), vs.find? (fun v => right3 v && (txt3 v == s.data.toList)) = none → lget l' 2 = .lbox g2 [.int .i64 0, .int .i64 0, .str ⟨#[]⟩] → K (.exit 2, ⟨⟨l', g'⟩, H⟩)),
    optW (erun T (.loop L1_hedgerowref01_Parse) ⟨⟨l, g⟩, H⟩) K := by
  induction vs with
  | nil =>
    intro j hd l g H K h0 h2 h63 h64 h65 hr he
    have hle : all.length ≤ j := by simpa using hd
    have hge : ¬ ((j : Int) < all.length) := by omega
    have hge' : ¬ (j < all.length) := by omega
    rw [run_loop]
    simp [L1_hedgerowref01_Parse, h64, h65, hge, hge']
    exact he _ g rfl (by simp [h2])
  | cons v vs ih =>
    intro j hd l g H K h0 h2 h63 h64 h65 hr he
    have hj : j < all.length := by
      rcases Nat.lt_or_ge j all.length with h1 | h1
      · exact h1
      · rw [List.drop_eq_nil_of_le h1] at hd; cases hd
    have hgv : all[j]? = some v := by
      have := congrArg (·[0]?) hd
      simpa using this
    have hd' : all.drop (j + 1) = vs := by
      have := congrArg List.tail hd
      simpa using this
    have hvm : v ∈ all := List.mem_of_getElem? hgv
    have hlt : (j : Int) < all.length := by omega
    have hix : gIx all.length (.int .i64 (j : Int)) = some j := by simp only [gIx]; rw [if_pos (by omega)]; simp
    have hw : IntKind.i64.wrap ((j : Int) + 1) = (j : Int) + 1 := wrap_i64' (by omega) (by omega)
    obtain ⟨k, n, b⟩ := v
    have hgd : ∀ h : j < all.length, all[j]'h = (k, n, b) := fun h => by rw [List.getElem?_eq_getElem h] at hgv; exact Option.some.inj hgv
    have hbs : (⟨b.toArray⟩ : ByteArray).size ≤ 1000 := by rw [ba_size]; exact hsm _ hvm
    have hR := ref_Right k n ⟨b.toArray⟩ (by omega) H
    have hT := ref_Text k n ⟨b.toArray⟩ hbs H
    have hdt : (⟨b.toArray⟩ : ByteArray).data.toList = b := by simp
    rw [hdt] at hR hT
    rw [run_loop, wp_seqK]
    cases hrv : rightV k n b <;> rw [hrv] at hR
    · have hp : (right3 (k, n, b) && (txt3 (k, n, b) == s.data.toList)) = false := by simp [right3, hrv]
      simp [L1_hedgerowref01_Parse, h0, h63, h64, h65, hlt, hj, hix, hgv, hgd, val3, setPart, hR, hw]
      refine ih (j + 1) hd' _ _ H K ?_ ?_ ?_ ?_ ?_ ?_ ?_
      · simp [h0]
      · simp [h2]
      · simp [h63]
      · simp [h64]
      · simp
      · intro l' g' w e1 e2 e3; exact hr l' g' w (by rw [List.find?_cons, hp]; exact e1) e2 e3
      · intro l' g' e1 e2; exact he l' g' (by rw [List.find?_cons, hp]; exact e1) e2
    · by_cases ht : txtV k n b = s.data.toList
      · have ht' : (⟨(txtV k n b).toArray⟩ : ByteArray) = s := ((list_iff s _).1 ht.symm).symm
        have hp : (right3 (k, n, b) && (txt3 (k, n, b) == s.data.toList)) = true := by simp [right3, hrv, txt3, ht]
        simp [L1_hedgerowref01_Parse, h0, h2, h63, h64, h65, hlt, hj, hix, hgv, hgd, val3, setPart, hR, hT, ht']
        refine hr _ _ (k, n, b) (by rw [List.find?_cons, hp]) ?_ ?_
        · simp [val3]
        · simp
      · have ht' : ¬ (⟨(txtV k n b).toArray⟩ : ByteArray) = s := fun h => ht ((list_iff s _).2 h.symm).symm
        have hp : (right3 (k, n, b) && (txt3 (k, n, b) == s.data.toList)) = false := by simp [right3, hrv, txt3, ht]
        simp [L1_hedgerowref01_Parse, h0, h63, h64, h65, hlt, hj, hix, hgv, hgd, val3, setPart, hR, hT, ht', hw]
        refine ih (j + 1) hd' _ _ H K ?_ ?_ ?_ ?_ ?_ ?_ ?_
        · simp [h0]
        · simp [h2]
        · simp [h63]
        · simp [h64]
        · simp
        · intro l' g' w e1 e2 e3; exact hr l' g' w (by rw [List.find?_cons, hp]; exact e1) e2 e3
        · intro l' g' e1 e2; exact he l' g' (by rw [List.find?_cons, hp]; exact e1) e2

theorem unq_len : ∀ (n : Nat) (l : List UInt8), l.length ≤ n → (unqL l).length ≤ l.length := by
  intro n
  induction n with
  | zero => intro l h; have : l = [] := List.eq_nil_of_length_eq_zero (by omega); subst this; simp [unqL]
  | succ n ih =>
    intro l h
    match l with
    | [] => simp [unqL]
    | [_] => simp [unqL]
    | c :: d :: r =>
      unfold unqL
      simp only [List.length_cons] at h
      split
      · have := ih r (by omega); simp; omega
      · have := ih (d :: r) (by simp; omega); simp at this ⊢; omega

theorem ref_Parse (s : ByteArray) (hs : s.size ≤ 200) (H : GH) : ecall T f_hedgerowref01_Parse [.str s] H = some (opt3 (parseV s.data.toList), H) := by
  apply optW.eq
  rw [ecall_0 T_hedgerowref01_Parse rfl (by simp [F_hedgerowref01_Parse]), wp_fin1]
  have hsz := bs_size s
  simp only [F_hedgerowref01_Parse, b_hedgerowref01_Parse]
  by_cases h0 : s = ⟨#[]⟩
  · subst h0
    have hp : parseV (⟨#[]⟩ : ByteArray).data.toList = none := by
      unfold parseV; rw [if_neg (by rintro ⟨h, _⟩; exact h rfl)]
    rw [hp]
    simp [gFill, setPart, opt3, val3]
  · have hl : s.data.toList ≠ [] := fun h => h0 ((empty_iff s).1 h)
    have h200 : ¬ ((200 : Int) < s.size) := by omega
    have h200' : ¬ (200 < s.size) := by omega
    have hnum := ref_number s (by omega) hl H
    have hfc := find_cand hl
    -- what follows, once the text between is there
    have tail : ∀ (inner : ByteArray) (_ : inner.data.toList = mid s.data.toList) (l : List GV) (_ : lget l 0 = .str s) (_ : lget l 2 = .lbox 0 [.int .i64 0, .int .i64 0, .str ⟨#[]⟩]) (_ : lget l 4 = .str inner) (_ : lget l 5 = .str ⟨#[]⟩) (_ : lget l 6 = .int .i64 0) (K : GExit × St → Prop)
        (_ : ∀ (l' : List GV) (bare : ByteArray), lget l' 0 = .str s → lget l' 2 = .lbox 0 [.int .i64 0, .int .i64 0, .str ⟨#[]⟩] → lget l' 4 = .str inner → lget l' 5 = .str bare → bare = ⟨(unqL (mid s.data.toList)).toArray⟩ → K (.exit 0, ⟨⟨l', 1⟩, H⟩)), optW (erun T (.loop L0_hedgerowref01_Parse) ⟨⟨l, 1⟩, H⟩) K := by
      intro inner hin l e0 e2 e4 e5 e6 K he
      have hil : inner.size ≤ 200 := by
        rw [bs_size, hin]; simp [mid]; omega
      refine bare_loop inner (by omega) 1000 inner.data.toList (by rw [← bs_size]; omega) 0 rfl l 1 H K ⟨#[]⟩ e4 e5 (by simpa using e6) (by have : (⟨#[]⟩ : ByteArray).size = 0 := rfl; rw [this, ← bs_size]; omega) ?_
      intro l' acc' f0 f2 f3 f4 f5 f6
      refine he l' acc' (by rw [f0, e0]) (by rw [f2, e2]) f4 f5 ?_
      apply ba_ext
      rw [f6, hin]; simp
    have hml : (mid s.data.toList).length ≤ 200 := by simp [mid]; omega
    have hul := unq_len _ (mid s.data.toList) (Nat.le_refl _)
    have hsmall : ∀ v ∈ cand s.data.toList, v.2.2.length ≤ 1000 := by
      intro v hv
      simp only [cand, List.mem_cons, List.not_mem_nil, or_false] at hv
      rcases hv with rfl | rfl | rfl | rfl | rfl | rfl | rfl <;> simp only [List.length_nil] <;> omega
    by_cases h1 : (1 : Int) < s.size
    · have h1' : 1 < s.size := by omega
      have hw : IntKind.i64.wrap ((s.size : Int) - 1) = (s.size : Int) - 1 := wrap_i64' (by omega) (by omega)
      obtain ⟨hgb, hmid⟩ := mid_slice s (by omega) (by omega)
      simp [h0, h200, h200', h1, h1', hw, hgb, hmid]
      rw [wp_seqK, wp_blockK]
      refine tail ⟨(mid s.data.toList).toArray⟩ (by simp) _ ?_ ?_ ?_ ?_ ?_ _ ?_
      · simp
      · simp
      · simp
      · simp
      · simp
      · intro l' bare f0 f2 f4 f5 f6
        subst f6
        simp [f0, f4, f5, hnum, gFill, setPart, gSetAll]
        rw [wp_seqK, wp_blockK]
        refine cand_loop s (cand s.data.toList) .exact (by simp [cand]) hsmall 0 (cand s.data.toList) 0 rfl _ _ _ _ ?_ ?_ ?_ ?_ ?_ ?_ ?_
        · simp [f0]
        · simp [f2]
        · simp [cand, val3]
        · simp [cand]
        · simp
        · intro l'' g' v e1 e2 e3
          have hpv : parseV s.data.toList = some v := hfc.symm.trans e1
          rw [hpv]
          simp [e2, e3, opt3, val3]
        · intro l'' g' e1 e2
          have hpv : parseV s.data.toList = none := hfc.symm.trans e1
          rw [hpv]
          simp [e2, opt3, val3, gFill, setPart]
    · have h1' : ¬ 1 < s.size := by omega
      have hm0 : mid s.data.toList = [] := by
        have : s.data.toList.length ≤ 1 := by omega
        simp only [mid]
        rw [show s.data.toList.length - 2 = 0 by omega, List.take_zero]
      simp [h0, h200, h200', h1, h1']
      rw [wp_seqK, wp_blockK]
      refine tail ⟨#[]⟩ (by rw [hm0]) _ ?_ ?_ ?_ ?_ ?_ _ ?_
      · simp
      · simp
      · simp
      · simp
      · simp
      · intro l' bare f0 f2 f4 f5 f6
        subst f6
        have hmm : (⟨#[]⟩ : ByteArray) = ⟨(mid s.data.toList).toArray⟩ := by rw [hm0]
        rw [hmm] at f4
        simp [f0, f4, f5, hnum, gFill, setPart, gSetAll]
        rw [wp_seqK, wp_blockK]
        refine cand_loop s (cand s.data.toList) .exact (by simp [cand]) hsmall 0 (cand s.data.toList) 0 rfl _ _ _ _ ?_ ?_ ?_ ?_ ?_ ?_ ?_
        · simp [f0]
        · simp [f2]
        · simp [cand, val3]
        · simp [cand]
        · simp
        · intro l'' g' v e1 e2 e3
          have hpv : parseV s.data.toList = some v := hfc.symm.trans e1
          rw [hpv]
          simp [e2, e3, opt3, val3]
        · intro l'' g' e1 e2
          have hpv : parseV s.data.toList = none := hfc.symm.trans e1
          rw [hpv]
          simp [e2, opt3, val3, gFill, setPart]

/-! ## The laws -/

theorem val_beq (v : Int × Int × List UInt8) : leavesEq [.int .i64, .int .i64, .str] [.int .i64 v.1, .int .i64 v.2.1, .str ⟨v.2.2.toArray⟩] [.int .i64 v.1, .int .i64 v.2.1, .str ⟨v.2.2.toArray⟩] = some true := by
  have : ((⟨v.2.2.toArray⟩ : ByteArray) == ⟨v.2.2.toArray⟩) = true := str_beq.2 rfl
  simp [leavesEq, leafEq, this]

theorem parses_ok (s : ByteArray) (H : GH) : ecall T f_hedgerowlaw01_ValueParses [.str s] H = some (.bool true, H) := by
  apply optW.eq
  rw [ecall_0 T_hedgerowlaw01_ValueParses rfl (by simp [F_hedgerowlaw01_ValueParses]), wp_fin1]
  simp only [F_hedgerowlaw01_ValueParses, b_hedgerowlaw01_ValueParses]
  by_cases h200 : (200 : Int) < s.size
  · have h200' : 200 < s.size := by omega
    simp [fixed_ok, h200, h200']
  · have h200' : ¬ 200 < s.size := by omega
    have h1 := value_Parse s (by omega) H
    have h2 := ref_Parse s (by omega) H
    cases hp : parseV s.data.toList with
    | some v =>
      rw [hp] at h1 h2
      have hb := val_beq v
      simp only [opt3, val3] at h1 h2
      simp [fixed_ok, h200, h200', h1, h2, setPart, hb]
    | none =>
      rw [hp] at h1 h2
      have hb := val_beq (0, 0, [])
      simp only [opt3, val3] at h1 h2 hb
      simp [fixed_ok, h200, h200', h1, h2, setPart, hb]

theorem txt_small {k n : Int} {l : List UInt8} (hl : l.length ≤ 200) : (txtV k n l).length ≤ 500 := by
  unfold txtV
  split
  · rename_i hr
    have hq := quo_len l
    rcases right_cases hr with ⟨rfl, h2, h3⟩ | ⟨rfl, h2, h3⟩ | ⟨rfl, h2, h3⟩ | ⟨rfl, h1, h2, h3⟩ | ⟨rfl, h2⟩ | ⟨rfl, h2⟩ | ⟨rfl, h2⟩
    · simp [txtR]
    · subst h2; simp [txtR]
    · subst h2; simp [txtR]
    · have := itoa_len n h1 h2
      have e : txtR 2 n l = Lib.itoa n := rfl
      rw [e]; omega
    · simp [txtR]; omega
    · simp [txtR]; omega
    · simp [txtR]; omega
  · simp

theorem texts_ok (k n : Int) (s : ByteArray) (hn1 : -9223372036854775808 ≤ n) (hn2 : n ≤ 9223372036854775807) (H : GH) : ecall T f_hedgerowlaw01_ValueTexts [.agg [.int .i64 k, .int .i64 n, .str s]] H = some (.bool true, H) := by
  apply optW.eq
  rw [ecall_0 T_hedgerowlaw01_ValueTexts rfl (by simp [F_hedgerowlaw01_ValueTexts]), wp_fin1]
  simp only [F_hedgerowlaw01_ValueTexts, b_hedgerowlaw01_ValueTexts]
  have hsz := bs_size s
  by_cases h200 : (200 : Int) < s.size
  · have h200' : 200 < s.size := by omega
    simp [fixed_ok, h200, h200']
  · have h200' : ¬ 200 < s.size := by omega
    have h1 := value_String k n s (by omega) hn1 hn2 H
    have h2 := ref_Text k n s (by omega) H
    have h3 := ref_Right k n s (by omega) H
    have hts := txt_small (k := k) (n := n) (l := s.data.toList) (by omega)
    have h4 := value_Parse ⟨(txtV k n s.data.toList).toArray⟩ (by rw [ba_size]; omega) H
    have hdt : (⟨(txtV k n s.data.toList).toArray⟩ : ByteArray).data.toList = txtV k n s.data.toList := by simp
    rw [hdt, parse_txt] at h4
    have hss : (⟨s.data.toList.toArray⟩ : ByteArray) = s := ((list_iff s _).1 rfl).symm
    cases hr : rightV k n s.data.toList <;> rw [hr] at h3 h4
    · simp only [Bool.false_eq_true, if_false, opt3, val3] at h4
      simp [fixed_ok, h200, h200', h1, h2, h3, h4, setPart]
    · simp only [if_true, opt3, val3, hss] at h4
      have hb : (s == s) = true := str_beq.2 rfl
      have hq : leavesEq [.int .i64, .int .i64, .str] [.int .i64 k, .int .i64 n, .str s] [.int .i64 k, .int .i64 n, .str s] = some true := by simp [leavesEq, leafEq, hb]
      simp [fixed_ok, h200, h200', h1, h2, h3, h4, setPart, hq]
end Go.Proofs.YtbcdhjalciljaaaDoor
