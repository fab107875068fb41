/- Own work, over the shadow machine: SSpec4. -/
import Derived.Test.YtalhcaadpgadkaaGreatDoorSp3
set_option linter.all false
namespace Go.Proofs.YtalhcaadpgadkaaGreatDoor
open Go.Sh
set_option maxRecDepth 100000

/-! ## The document's line of a change -/

theorem catB {a b : List UInt8} (h : a.length + b.length ≤ 100000000) : gStr .add (mkB a) (mkB b) = some (.str (mkB (a ++ b))) := by
  have e : mkB a ++ mkB b = mkB (a ++ b) := ba_ext (by simp)
  simp only [gStr]; rw [if_pos (by simp [maxLen]; omega), e]
theorem catK {a : List UInt8} {b : Array UInt8} (h : a.length + b.toList.length ≤ 100000000) : gStr .add (mkB a) ⟨b⟩ = some (.str (mkB (a ++ b.toList))) := by
  have := catB (a := a) (b := b.toList) h
  exact this
theorem catL {b : List UInt8} {a : Array UInt8} (h : a.toList.length + b.length ≤ 100000000) : gStr .add ⟨a⟩ (mkB b) = some (.str (mkB (a.toList ++ b))) := by
  have := catB (a := a.toList) (b := b) h
  exact this

theorem catC {a b : Array UInt8} (h : a.toList.length + b.toList.length ≤ 100000000) : gStr .add ⟨a⟩ ⟨b⟩ = some (.str (mkB (a.toList ++ b.toList))) := by
  have := catB (a := a.toList) (b := b.toList) h
  exact this

theorem ref_Name' (a : List UInt8) (ha : a.length ≤ 1000000) (H : GH) : ecall T f_hedgerowref01_Name [.str (mkB a)] H = some (.bool (nameL a), H) := by
  have := ref_Name (mkB a) (by rw [mkB_size]; omega) H
  rwa [mkB_data] at this

theorem ref_Elem (k : Int) (a b c d : List UInt8) (ha : a.length ≤ 100000) (hb : b.length ≤ 100000) (hc : c.length ≤ 100000) (hd : d.length ≤ 100000) (H : GH) :
    ecall T f_hedgerowref01_Elem [.agg [.int .i64 k, .str (mkB a), .str (mkB b), .str (mkB c), .str (mkB d)]] H = some (.bool (elemV k a b c d), H) := by
  have n1 := ref_Name' a (by omega) H
  have n2 := ref_Name' b (by omega) H
  have n3 := ref_Name' c (by omega) H
  have n4 := ref_Name' d (by omega) H
  have n0 := ref_Name' [] (by simp) H
  rw [mkB_empty] at n0
  apply optW.eq
  rw [ecall_0 T_hedgerowref01_Elem rfl (by simp [F_hedgerowref01_Elem]), wp_fin1]
  by_cases h1 : k = 1
  · cases hx : nameL a <;> rw [hx] at n1
    · simp [F_hedgerowref01_Elem, b_hedgerowref01_Elem, h1, n1, n2, n3, n4, elemV, hx]
    · by_cases e2 : b = [] <;> by_cases e3 : c = [] <;> simp [F_hedgerowref01_Elem, b_hedgerowref01_Elem, h1, n0, n1, n2, n3, n4, elemV, hx, e2, e3]
  · by_cases h24 : k = 2 ∨ k = 4
    · rcases h24 with h2 | h2
      · cases hx : nameL a <;> rw [hx] at n1
        · simp [F_hedgerowref01_Elem, b_hedgerowref01_Elem, h2, n1, n2, n3, n4, elemV, hx]
        · by_cases e2 : b = [] <;> by_cases e3 : c = [] <;> simp [F_hedgerowref01_Elem, b_hedgerowref01_Elem, h2, n0, n1, n2, n3, n4, elemV, hx, e2, e3]
      · cases hx : nameL a <;> rw [hx] at n1
        · simp [F_hedgerowref01_Elem, b_hedgerowref01_Elem, h2, n1, n2, n3, n4, elemV, hx]
        · by_cases e2 : b = [] <;> by_cases e3 : c = [] <;> simp [F_hedgerowref01_Elem, b_hedgerowref01_Elem, h2, n0, n1, n2, n3, n4, elemV, hx, e2, e3]
    · have h2 : ¬ k = 2 := fun h => h24 (.inl h)
      have h4 : ¬ k = 4 := fun h => h24 (.inr h)
      by_cases h3 : k = 3
      · cases hx : nameL a <;> rw [hx] at n1
        · simp [F_hedgerowref01_Elem, b_hedgerowref01_Elem, h3, n1, n2, n3, n4, elemV, hx]
        · cases hy : nameL b <;> rw [hy] at n2
          · simp [F_hedgerowref01_Elem, b_hedgerowref01_Elem, h3, n1, n2, n3, n4, elemV, hx, hy]
          · cases hz : nameL c <;> rw [hz] at n3 <;> simp [F_hedgerowref01_Elem, b_hedgerowref01_Elem, h3, n1, n2, n3, n4, elemV, hx, hy, hz]
      · by_cases h5 : k = 5
        · cases hx : nameL a <;> rw [hx] at n1
          · simp [F_hedgerowref01_Elem, b_hedgerowref01_Elem, h5, n1, n2, n3, n4, elemV, hx]
          · cases hy : nameL b <;> rw [hy] at n2
            · simp [F_hedgerowref01_Elem, b_hedgerowref01_Elem, h5, n1, n2, n3, n4, elemV, hx, hy]
            · cases hz : nameL c <;> rw [hz] at n3 <;> simp [F_hedgerowref01_Elem, b_hedgerowref01_Elem, h5, n1, n2, n3, n4, elemV, hx, hy, hz]
        · simp [F_hedgerowref01_Elem, b_hedgerowref01_Elem, h1, h2, h3, h4, h5, n1, n2, n3, n4, elemV]

theorem ops_row : [GV.str ⟨#[]⟩, GV.str ⟨#[97, 100, 100]⟩, GV.str ⟨#[114, 101, 109, 111, 118, 101]⟩, GV.str ⟨#[115, 101, 116]⟩, GV.str ⟨#[99, 108, 101, 97, 114]⟩] = opsL.map strG := rfl

theorem ref_Change (x : Chg) (hf : CFit x) (H : GH) : ecall T f_hedgerowref29_Change [chgG x] H = some (.tup [.str (mkB (chgTx x)), .bool x.okB], H) := by
  have hr := ref_Right x.vk x.vn (mkB x.vt) (by rw [mkB_size]; have := hf.t; omega) H
  have hs := ref_Text x.vk x.vn (mkB x.vt) (by rw [mkB_size]; exact hf.t) H
  simp only [mkB_data, mk_mkB] at hr hs
  have hel := ref_Elem x.ek x.a x.b x.c x.d (by have := hf.a; omega) (by have := hf.b; omega) (by have := hf.c; omega) (by have := hf.d; omega) H
  have hnone : (decide (x.vk = 0) && (decide (x.vn = 0) && (decide (x.vt = []) && true))) = x.none := by
    rw [Bool.eq_iff_iff]; simp [Chg.none]
  have hle : leavesEq [.int .i64, .int .i64, .str] [.int .i64 x.vk, .int .i64 x.vn, .str (mkB x.vt)] [.int .i64 0, .int .i64 0, .str ⟨#[]⟩] = some x.none := by
    rw [← hnone]
    by_cases h1 : x.vk = 0 <;> by_cases h2 : x.vn = 0 <;> by_cases h3 : x.vt = [] <;> simp [leavesEq, h1, h2, h3]
  apply optW.eq
  rw [ecall_0 T_hedgerowref29_Change rfl (by simp [F_hedgerowref29_Change]), wp_fin1]
  by_cases hop : 1 ≤ x.op ∧ x.op ≤ 4
  · have ho1 : ¬ x.op < 1 := by omega
    have ho4 : ¬ 4 < x.op := by omega
    cases he : elemV x.ek x.a x.b x.c x.d with
    | false =>
      have hok : x.okB = false := by simp [Chg.okB, he]
      rw [he] at hel
      simp [F_hedgerowref29_Change, b_hedgerowref29_Change, chgG, chgC, gFill, hle, ho1, ho4, hel, chgTx, hok]
    | true =>
      rw [he] at hel
      cases hv : rightV x.vk x.vn x.vt with
      | false =>
        have hok : x.okB = false := by simp [Chg.okB, hv]
        rw [hv] at hr
        simp [F_hedgerowref29_Change, b_hedgerowref29_Change, chgG, chgC, gFill, hle, ho1, ho4, hel, hr, chgTx, hok]
      | true =>
        rw [hv] at hr
        by_cases hn : x.none = decide (x.op = 3)
        · have hok : x.okB = false := by simp [Chg.okB, hn]
          simp [F_hedgerowref29_Change, b_hedgerowref29_Change, chgG, chgC, gFill, hle, ho1, ho4, hel, hr, hn, chgTx, hok]
        · have hok : x.okB = true := by
            have hb : (x.none != decide (x.op = 3)) = true := by rw [bne_iff_ne]; exact hn
            unfold Chg.okB
            rw [he, hv, hb]; simp [hop]
          have ha := hf.a; have hb := hf.b; have hc := hf.c; have hd := hf.d
          have htl := (txt10 hv).2
          have ixs : gIx 5 (.int .i64 1) = some 1 ∧ gIx 5 (.int .i64 2) = some 2 ∧ gIx 5 (.int .i64 3) = some 3 ∧ gIx 5 (.int .i64 4) = some 4 := by decide
          obtain ⟨x1, x2, x3, x4⟩ := ixs
          cases hx : x.none <;> rw [hx] at hn hle
          all_goals
            rcases op_cases hop with h3 | h3 | h3 | h3 <;> rw [h3] at hn
          all_goals
            first
            | (exact absurd (by decide) hn)
            | skip
          all_goals
            rcases elem_kind he with hk | hk | hk | hk | hk
          all_goals
            rw [hk] at hel
            simp (disch := first | (simp; done) | (simp only [List.length_append, List.length_cons, List.length_nil]; omega)) [F_hedgerowref29_Change, b_hedgerowref29_Change, chgG, chgC, gFill, hle, hel, hr, setPart, gSetAll, hk, h3, x1, x2, x3, x4, catB, catK, catL, catC, hs, chgTx, hok]
            simp [Chg.text, join_flat, partsL, hk, h3, hx, nthL, opsL, elsL]
  · have hok : x.okB = false := by simp [Chg.okB, hop]
    by_cases h1 : x.op < 1
    · simp [F_hedgerowref29_Change, b_hedgerowref29_Change, chgG, chgC, gFill, hle, h1, chgTx, hok]
    · have h4 : 4 < x.op := by omega
      simp [F_hedgerowref29_Change, b_hedgerowref29_Change, chgG, chgC, gFill, hle, h1, h4, chgTx, hok]
end Go.Proofs.YtalhcaadpgadkaaGreatDoor
