/- Own work, over the shadow machine: JSpec18. -/
import Derived.Test.YtalhcaadpgadkaaDoorSp17
set_option linter.all false
namespace Go.Proofs.YtalhcaadpgadkaaDoor
open Go.Sh
set_option maxRecDepth 100000

/-! ## few -/

/-- A step that comes from without. -/
structure SBig (p : SP) : Prop where
  fit : SFit p.1
  el : Elems 9 p.2 (p.1.chs.map chgG)
  chs : ∀ c ∈ p.1.chs, CBig c
  len : p.1.chs.length ≤ 9223372036854775807

def smallC (c : Chg) : Prop := c.a.length + c.b.length + c.c.length + c.d.length + c.vt.length ≤ 300

theorem small_fit {c : Chg} (h : CBig c) (hs : smallC c) : CFit c := by
  unfold smallC at hs
  exact ⟨by omega, by omega, by omega, by omega, by omega, h.n1, h.n2⟩

theorem few_in (all : List Chg) (hbig : ∀ c ∈ all, CBig c) (hall : all.length ≤ 100) (v : GV) (hv : Elems 9 v (all.map chgG)) (xs : List Chg) : ∀ (j : Nat) (_ : all.drop j = xs) (l : List GV) (g : Nat) (H : GH) (K : GExit × St → Prop)
    (_ : lget l 18 = v) (_ : lget l 19 = .int .i64 all.length) (_ : lget l 20 = .int .i64 j)
    (_ : ∀ (l' : List GV) (g' : Nat), (∀ c ∈ xs, smallC c) → lget l' 0 = lget l 0 → lget l' 7 = lget l 7 → lget l' 8 = lget l 8 → lget l' 9 = lget l 9 → K (.exit 2, ⟨⟨l', g'⟩, H⟩))
    (_ : ∀ (l' : List GV) (g' : Nat), lget l' 2 = .bool false → K (.ret, ⟨⟨l', g'⟩, H⟩)),
    optW (erun T (.loop L0_hedgerowlaw29_few) ⟨⟨l, g⟩, H⟩) K := by
  induction xs with
  | nil =>
    intro j hd l g H K h18 h19 h20 he hr
    have hle : all.length ≤ j := by simpa using hd
    have hge : ¬ ((j : Int) < all.length) := by omega
    have hge' : ¬ (j < all.length) := by omega
    rw [run_loop]
    simp [L0_hedgerowlaw29_few, h19, h20, hge, hge']
    exact he _ g (fun c hc => by cases hc) (by simp) (by simp) (by simp) (by simp)
  | cons c xs ih =>
    intro j hd l g H K h18 h19 h20 he hr
    have hj : j < all.length := by
      rcases Nat.lt_or_ge j all.length with h1 | h1
      · exact h1
      · rw [List.drop_eq_nil_of_le h1] at hd; cases hd
    have hgv : all[j]? = some c := by
      have := congrArg (·[0]?) hd
      simpa using this
    have hd' : all.drop (j + 1) = xs := by
      have := congrArg List.tail hd
      simpa using this
    have hgd : ∀ h : j < all.length, all[j]'h = c := fun h => by rw [List.getElem?_eq_getElem h] at hgv; exact Option.some.inj hgv
    have hgm : (all.map chgG)[j]? = some (chgG c) := by simp [hgv]
    obtain ⟨t, hvt⟩ := hv.is_sl hgm
    obtain ⟨ba, bb, bc, bd, bt, n1, n2⟩ := hbig c (List.mem_of_getElem? hgv)
    have hlt : (j : Int) < all.length := by omega
    have hix : gIx all.length (.int .i64 (j : Int)) = some j := by simp only [gIx]; rw [if_pos (by omega)]; simp
    have hw : IntKind.i64.wrap ((j : Int) + 1) = (j : Int) + 1 := wrap_i64' (by omega) (by omega)
    have q1 : IntKind.i64.wrap ((c.a.length : Int) + c.b.length) = (c.a.length : Int) + c.b.length := wrap_i64' (by omega) (by omega)
    have q2 : IntKind.i64.wrap ((c.a.length : Int) + c.b.length + c.c.length) = (c.a.length : Int) + c.b.length + c.c.length := wrap_i64' (by omega) (by omega)
    have q3 : IntKind.i64.wrap ((c.a.length : Int) + c.b.length + c.c.length + c.d.length) = (c.a.length : Int) + c.b.length + c.c.length + c.d.length := wrap_i64' (by omega) (by omega)
    have q4 : IntKind.i64.wrap ((c.a.length : Int) + c.b.length + c.c.length + c.d.length + c.vt.length) = (c.a.length : Int) + c.b.length + c.c.length + c.d.length + c.vt.length := wrap_i64' (by omega) (by omega)
    rw [hvt] at h18
    by_cases hsum : (300 : Int) < (c.a.length : Int) + c.b.length + c.c.length + c.d.length + c.vt.length
    · rw [run_loop, wp_seqK]
      simp [L0_hedgerowlaw29_few, h18, h19, h20, hlt, hj, hix, hgv, hgd, chgG, chgC, setPart, q1, q2, q3, q4, hsum]
      exact hr _ _ (by simp)
    · rw [run_loop, wp_seqK]
      simp [L0_hedgerowlaw29_few, h18, h19, h20, hlt, hj, hix, hgv, hgd, chgG, chgC, setPart, q1, q2, q3, q4, hsum, hw]
      refine ih (j + 1) hd' _ _ H K ?_ ?_ ?_ ?_ hr
      · simp [h18, hvt]
      · simp [h19]
      · simp
      · intro l' g' f0 f1 f2 f3 f4
        refine he l' g' (fun d hd => ?_) (by rw [f1]; simp) (by rw [f2]; simp) (by rw [f3]; simp) (by rw [f4]; simp)
        rcases List.mem_cons.1 hd with rfl | hd
        · unfold smallC; omega
        · exact f0 d hd

theorem few_out (all : List SP) (hbig : ∀ p ∈ all, SBig p) (hall : all.length ≤ 9223372036854775807) (v : GV) (hv : Elems 8 v (all.map spG)) (xs : List SP) : ∀ (j : Nat) (_ : all.drop j = xs) (l : List GV) (g : Nat) (H : GH) (K : GExit × St → Prop)
    (_ : lget l 0 = v) (_ : lget l 7 = v) (_ : lget l 8 = .int .i64 all.length) (_ : lget l 9 = .int .i64 j)
    (_ : ∀ (l' : List GV) (g' : Nat), (∀ p ∈ xs, ∀ c ∈ p.1.chs, smallC c) → lget l' 0 = v → K (.exit 0, ⟨⟨l', g'⟩, H⟩))
    (_ : ∀ (l' : List GV) (g' : Nat), lget l' 2 = .bool false → K (.ret, ⟨⟨l', g'⟩, H⟩)),
    optW (erun T (.loop L1_hedgerowlaw29_few) ⟨⟨l, g⟩, H⟩) K := by
  induction xs with
  | nil =>
    intro j hd l g H K h0 h7 h8 h9 he hr
    have hle : all.length ≤ j := by simpa using hd
    have hge : ¬ ((j : Int) < all.length) := by omega
    have hge' : ¬ (j < all.length) := by omega
    rw [run_loop]
    simp [L1_hedgerowlaw29_few, h8, h9, hge, hge']
    exact he _ _ (fun p hp => by cases hp) (by simp [h0])
  | cons p xs ih =>
    intro j hd l g H K h0 h7 h8 h9 he hr
    have hj : j < all.length := by
      rcases Nat.lt_or_ge j all.length with h1 | h1
      · exact h1
      · rw [List.drop_eq_nil_of_le h1] at hd; cases hd
    have hgv : all[j]? = some p := by
      have := congrArg (·[0]?) hd
      simpa using this
    have hd' : all.drop (j + 1) = xs := by
      have := congrArg List.tail hd
      simpa using this
    have hgd : ∀ h : j < all.length, all[j]'h = p := fun h => by rw [List.getElem?_eq_getElem h] at hgv; exact Option.some.inj hgv
    have hgm : (all.map spG)[j]? = some (spG p) := by simp [hgv]
    obtain ⟨t, hvt⟩ := hv.is_sl hgm
    have hp := hbig p (List.mem_of_getElem? hgv)
    obtain ⟨x, a⟩ := p
    obtain ⟨hfit, ha, hcb, hcl⟩ := hp
    simp only at hfit ha hcb hcl
    have hal := ha.len
    have hau := elemsUnbox ha
    have hao := ha.one
    have hac := ha.cells
    have hak := ha.ok
    have hlt : (j : Int) < all.length := by omega
    have hix : gIx all.length (.int .i64 (j : Int)) = some j := by simp only [gIx]; rw [if_pos (by omega)]; simp
    have hw : IntKind.i64.wrap ((j : Int) + 1) = (j : Int) + 1 := wrap_i64' (by omega) (by omega)
    have h7' := h7
    rw [hvt] at h7'
    by_cases h70 : (70 : Int) < x.chs.length
    · have h70' : 70 < x.chs.length := by omega
      rw [run_loop, wp_seqK]
      simp [L1_hedgerowlaw29_few, h7', h8, h9, hlt, hj, hix, hgv, hgd, spG, stpG, stpC, setPart, hao, hac, hak, hau, hal, h70, h70']
      exact hr _ _ (by simp)
    · have h70' : ¬ 70 < x.chs.length := by omega
      rw [run_loop, wp_seqK]
      simp [L1_hedgerowlaw29_few, h7', h8, h9, hlt, hj, hix, hgv, hgd, spG, stpG, stpC, setPart, hao, hac, hak, hau, hal, h70, h70']
      rw [wp_seqK, wp_blockK, wp_blockK]
      refine few_in x.chs hcb (by omega) a ha x.chs 0 rfl _ _ _ _ ?_ ?_ ?_ ?_ ?_
      · simp [hau]
      · simp
      · simp
      · intro l' g' f0 f1 f2 f3 f4
        simp [h0] at f1
        simp [h7'] at f2
        simp [h8] at f3
        simp [h9] at f4
        simp [f4, hw]
        refine ih (j + 1) hd' _ _ H K ?_ ?_ ?_ ?_ ?_ hr
        · simp [f1]
        · simp [f2, hvt, spG, stpG, stpC]
        · simp [f3]
        · simp
        · intro l2 g2 e0 e1
          refine he l2 g2 (fun q hq => ?_) e1
          rcases List.mem_cons.1 hq with rfl | hq
          · exact f0
          · exact e0 q hq
      · intro l' g' f2
        simp
        exact hr l' g' f2

theorem few_ok (L : List SP) (hbig : ∀ p ∈ L, SBig p) (hL : L.length ≤ 9223372036854775807) (v : GV) (hv : Elems 8 v (L.map spG)) (H : GH) :
    ∃ b, ecall T f_hedgerowlaw29_few [v] H = some (.bool b, H) ∧ (b = true → L.length ≤ 30 ∧ ∀ p ∈ L, SOk p ∧ p.1.chs.length ≤ 9223372036854775807) := by
  have hvl := hv.len
  have hvu := elemsUnbox hv
  have key : optW (ecall T f_hedgerowlaw29_few [v] H) fun r => ∃ b, r = (.bool b, H) ∧ (b = true → L.length ≤ 30 ∧ ∀ p ∈ L, SOk p ∧ p.1.chs.length ≤ 9223372036854775807) := by
    rw [ecall_0 T_hedgerowlaw29_few rfl (by simp [F_hedgerowlaw29_few]), wp_fin1]
    simp only [F_hedgerowlaw29_few, b_hedgerowlaw29_few]
    simp [hvl, hvu]
    rw [wp_seqK, wp_blockK]
    refine few_out L hbig hL v hv L 0 rfl _ _ _ _ ?_ ?_ ?_ ?_ ?_ ?_
    · simp
    · simp [hvu]
    · simp
    · simp
    · intro l' g' f0 f1
      simp [f1, hvu, hvl]
      by_cases h30 : L.length ≤ 30
      case neg => exact .inl (by omega)
      refine .inr ⟨by omega, h30, fun x v hp => ?_⟩
      have hb := hbig _ hp
      exact ⟨⟨hb.fit, hb.el, fun c hc => small_fit (hb.chs c hc) (f0 _ hp c hc)⟩, hb.len⟩
    · intro l' g' f2
      simp [f2]
  obtain ⟨r, h, b, rfl, h2⟩ := key
  exact ⟨b, h, h2⟩
end Go.Proofs.YtalhcaadpgadkaaDoor
