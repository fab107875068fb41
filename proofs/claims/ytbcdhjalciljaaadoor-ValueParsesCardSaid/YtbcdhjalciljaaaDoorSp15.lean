/- Own work, over the shadow machine: VSpec15. -/
import Derived.Test.YtbcdhjalciljaaaDoorSp14
set_option linter.all false
namespace Go.Proofs.YtbcdhjalciljaaaDoor
open Go.Sh
set_option maxRecDepth 100000

/-! ## The reference's reading -/

theorem number_loop (s : ByteArray) (hs : s.size ≤ 1000) (n : Nat) : ∀ (i : Nat) (_ : n + i = 15) (cs : List UInt8) (_ : s.data.toList.drop i = cs) (l : List GV) (g : Nat) (H : GH) (K : GExit × St → Prop) (acc : Int) (b : Nat)
    (_ : lget l 0 = .str s) (_ : lget l 3 = .int .i64 acc) (_ : lget l 5 = .int .i64 i) (_ : -(b : Int) ≤ acc) (_ : acc ≤ b) (_ : (b + 30) * 10 ^ n ≤ 1000000000000000000)
    (_ : ∀ (l' : List GV) (acc' : Int), lget l' 3 = .int .i64 acc' → lget l' 4 = lget l 4 → acc' = numI acc (cs.take n) → -1000000000000000000 ≤ acc' → acc' ≤ 1000000000000000000 → K (.exit 0, ⟨⟨l', g⟩, H⟩)),
    optW (erun T (.loop L0_hedgerowref01_number) ⟨⟨l, g⟩, H⟩) K := by
  have hsz := bs_size s
  induction n with
  | zero =>
    intro i hi cs hd l g H K acc b h0 h3 h5 hb1 hb2 hb he
    have hi15 : i = 15 := by omega
    subst hi15
    rw [run_loop]
    have hbb : b ≤ 1000000000000000000 := by simp at hb; omega
    by_cases hlt : (15 : Int) < s.size
    · have hlt' : 15 < s.size := by omega
      simp at h5
      simp [L0_hedgerowref01_number, h0, h5, hlt, hlt']
      exact he _ acc (by simp [h3]) (by simp) (by simp [numI]) (by omega) (by omega)
    · have hlt' : ¬ 15 < s.size := by omega
      simp at h5
      simp [L0_hedgerowref01_number, h0, h5, hlt, hlt']
      exact he _ acc (by simp [h3]) (by simp) (by simp [numI]) (by omega) (by omega)
  | succ n ih =>
    intro i hi cs hd l g H K acc b h0 h3 h5 hb1 hb2 hb he
    have hp : 1 ≤ 10 ^ n := Nat.one_le_pow _ _ (by omega)
    have hb10 : (b + 30) * 10 ≤ 1000000000000000000 := by
      refine Nat.le_trans (Nat.mul_le_mul_left _ ?_) hb
      rw [Nat.pow_succ]; omega
    cases cs with
    | nil =>
      have hlen := drop_none hd
      have hge : ¬ ((i : Int) < s.size) := by omega
      have hge' : ¬ (i < s.size) := by omega
      rw [run_loop]
      simp [L0_hedgerowref01_number, h0, h5, hge, hge']
      exact he _ acc (by simp [h3]) (by simp) (by simp [numI]) (by omega) (by omega)
    | cons c cs =>
      obtain ⟨hg, hi2, hd'⟩ := drop_some hd
      have hlt : (i : Int) < s.size := by omega
      have hlt' : i < s.size := by omega
      have h15 : (i : Int) < 15 := by omega
      have h15' : i < 15 := by omega
      have hix := ix_ok hlt
      have hg' : s.data[i]? = some c := by simpa using hg
      have hgd : ∀ h : i < s.data.size, s.data[i]'h = c := fun h => by rw [Array.getElem?_eq_getElem h] at hg'; exact Option.some.inj hg'
      have hc := c.toNat_lt
      have hw : IntKind.i64.wrap ((i : Int) + 1) = (i : Int) + 1 := wrap_i64' (by omega) (by omega)
      have w1 : IntKind.i64.wrap (acc * 10) = acc * 10 := wrap_i64' (by omega) (by omega)
      have w2 : IntKind.i64.wrap (c.toNat : Int) = c.toNat := wrap_i64' (by omega) (by omega)
      have w3 : IntKind.i64.wrap (acc * 10 + (c.toNat : Int)) = acc * 10 + c.toNat := wrap_i64' (by omega) (by omega)
      have w4 : IntKind.i64.wrap (acc * 10 + (c.toNat : Int) - 48) = acc * 10 + c.toNat - 48 := wrap_i64' (by omega) (by omega)
      rw [run_loop, wp_seqK]
      simp [L0_hedgerowref01_number, h0, h3, h5, hlt, hlt', h15, h15', hix, str_get, hg', hgd, w1, w2, w3, w4, hw]
      refine ih (i + 1) (by omega) cs hd' _ g H K (acc * 10 + c.toNat - 48) (b * 10 + 207) ?_ ?_ ?_ (by omega) (by omega) ?_ ?_
      · simp [h0]
      · simp
      · simp
      · rw [Nat.pow_succ, Nat.mul_comm (10 ^ n) 10, ← Nat.mul_assoc] at hb
        exact Nat.le_trans (Nat.mul_le_mul_right _ (by omega)) hb
      · intro l' acc' e1 e2 e3 e4 e5
        refine he l' acc' e1 (by rw [e2]; simp) ?_ e4 e5
        rw [e3]; rfl

theorem ref_number (s : ByteArray) (hs : s.size ≤ 1000) (hne : s.data.toList ≠ []) (H : GH) : ecall T f_hedgerowref01_number [.str s] H = some (.int .i64 (numR s.data.toList), H) := by
  apply optW.eq
  rw [ecall_0 T_hedgerowref01_number rfl (by simp [F_hedgerowref01_number]), wp_fin1]
  have hsz := bs_size s
  obtain ⟨c, r, hcr⟩ : ∃ c r, s.data.toList = c :: r := by
    cases hh : s.data.toList with
    | nil => exact absurd hh hne
    | cons c r => exact ⟨c, r, rfl⟩
  have hs1 : s.size = r.length + 1 := by rw [hsz, hcr]; rfl
  have hix : gIx s.size (.int .i64 0) = some 0 := ix_ok (i := 0) (by omega)
  have hg0 : s.data[0]? = some c := by
    have : s.data.toList[0]? = some c := by rw [hcr]; rfl
    simpa using this
  have hgd : ∀ h : 0 < s.data.size, s.data[0]'h = c := fun h => by rw [Array.getElem?_eq_getElem h] at hg0; exact Option.some.inj hg0
  simp only [F_hedgerowref01_number, b_hedgerowref01_number]
  rw [hcr]
  by_cases h45 : c = 45
  · subst h45
    have e1 : gBound s.size (.int .i64 1) = some 1 := by simp only [gBound]; rw [if_pos (by omega)]; rfl
    have hgb : gBounds s.size true false false [.int .i64 1] = some (1, s.size, none) := by simp [gBounds, e1]
    have hx : (s.extract 1 s.size).data.toList = r := by
      rw [Lib.extract_data, hcr, List.drop_one, List.tail_cons, List.take_of_length_le (by omega)]
    have hxz : (s.extract 1 s.size).size = r.length := by rw [bs_size, hx]
    have w0 : IntKind.i64.wrap (-1) = -1 := by decide
    simp [hix, str_get, hg0, hgd, hgb]
    rw [wp_seqK, wp_blockK]
    refine number_loop (s.extract 1 s.size) (by omega) 15 0 rfl r (by rw [hx]; rfl) _ _ _ _ 0 0 ?_ ?_ ?_ (by omega) (by omega) (by omega) ?_
    · simp
    · simp
    · simp
    · intro l' acc' e1 e2 e3 e4 e5
      have w1 : IntKind.i64.wrap (acc' * -1) = -acc' := by rw [wrap_i64' (by omega) (by omega)]; omega
      have w2 : IntKind.i64.wrap (-acc') = -acc' := wrap_i64' (by omega) (by omega)
      have hnum : numR (45 :: r) = -acc' := by rw [e3]; simp [numR]
      simp at e2
      simp [e1, e2, w1, w2, hnum]
  · have n1 : ¬ c.toNat = 45 := fun h => h45 (UInt8.toNat_inj.1 h)
    have m1 : ¬ (c.toNat : Int) = 45 := by omega
    simp [hix, str_get, hg0, hgd, n1, m1]
    rw [wp_seqK, wp_blockK]
    refine number_loop s hs 15 0 rfl (c :: r) (by rw [hcr]; rfl) _ _ _ _ 0 0 ?_ ?_ ?_ (by omega) (by omega) (by omega) ?_
    · simp
    · simp
    · simp
    · intro l' acc' e1 e2 e3 e4 e5
      have w1 : IntKind.i64.wrap acc' = acc' := wrap_i64' (by omega) (by omega)
      have hnum : numR (c :: r) = acc' := by rw [e3]; simp only [numR, if_neg h45]
      simp at e2
      simp [e1, e2, w1, hnum]
end Go.Proofs.YtbcdhjalciljaaaDoor
