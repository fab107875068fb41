/- Own work, over the shadow machine: NumSpec4. -/
import Derived.Test.YtiacgomjmijfcaaNum4
set_option linter.all false
namespace Go.Proofs.Ytiacgomjmijfcaa
open Go.Sh

theorem isB_append {a b : List Int} (ha : isB a) (hb : isB b) : isB (a ++ b) := fun x hx => (List.mem_append.1 hx).elim (ha x) (hb x)
theorem isB_hiB {n : Int} (h0 : 0 ≤ n) : isB (hiB n) := by
  fun_induction hiB n with
  | case1 n h => intro x hx; simp at hx
  | case2 n h ih =>
    intro x hx
    rcases List.mem_cons.1 hx with rfl | hx
    · omega
    · exact ih (by omega) x hx
theorem isB_putB (n : Int) : isB (putB n) := by
  rw [putB]
  split
  · intro x hx; simp at hx
  · refine isB_append (isB_hiB (by omega)) (fun x hx => ?_)
    have := loB_le (k := n) (by omega)
    simp at hx
    omega

theorem mod256 {c : Int} (h0 : 0 ≤ c) : c.tmod 128 = c % 128 := Int.tmod_eq_emod_of_nonneg h0

theorem mul128 {i : Nat} (hi : i ≤ 7) : IntKind.i64.wrap (128 ^ i * 128) = 128 ^ (i + 1) := by
  have h2 := pow128_le (i := i + 1) (by omega)
  have h3 := pow128_pos (i + 1)
  rw [← Int.pow_succ, wrap_i64' (by omega) (by omega)]

set_option maxHeartbeats 4000000 in
theorem refTake_loop (cs : List Int) : ∀ (i : Nat) (n w : Int) (B : List Int) (_ : isB B) (_ : (B.take 9).drop i = cs) (_ : 0 ≤ n) (_ : n < 128 ^ i) (_ : i ≤ 9) (_ : i ≤ 8 → w = 128 ^ i) (_ : B.length ≤ 2 ^ 40) (l : List GV) (g : Nat) (H : GH) (v : GV) (K : GExit × St → Prop) (_ : lget l 0 = v) (_ : Elems 1 v (u8s B)) (_ : H.bt ≤ H.toks.length)
    (_ : lget l 6 = .int .i64 i) (_ : lget l 4 = .int .i64 n) (_ : lget l 5 = .int .i64 w)
    (_ : ∀ l' H', TokStep none H H' → takeR i n (B.take i) cs = (0, 0) → K (.exit 0, ⟨⟨l', g⟩, H'⟩))
    (_ : ∀ l' H', TokStep none H H' → lget l' 2 = .int .i64 (takeR i n (B.take i) cs).1 → lget l' 3 = .int .i64 (takeR i n (B.take i) cs).2 → K (.ret, ⟨⟨l', g⟩, H'⟩)),
    optW (erun T (.loop L0_hedgerowref02_Take) ⟨⟨l, g⟩, H⟩) K := by
  induction cs with
  | nil =>
    intro i n w B hB hd hn hlt hi9 hw hBl l g H v K hv hE hbt h6 h4 h5 hx hr
    have hge := List.drop_eq_nil_iff.1 hd
    rw [List.length_take] at hge
    rw [run_loop]
    by_cases hlen : (i : Int) < B.length
    · have h9 : ¬ (i : Int) < 9 := by omega
      simp [L0_hedgerowref02_Take, hv, hE.ok, hE.len, h6, hlen, h9]
      exact hx _ _ (.refl _ _) rfl
    · simp [L0_hedgerowref02_Take, hv, hE.ok, hE.len, h6, hlen]
      exact hx _ _ (.refl _ _) rfl
  | cons c cs ih =>
    intro i n w B hB hd hn hlt hi9 hw hBl l g H v K hv hE hbt h6 h4 h5 hx hr
    obtain ⟨hget9, hi, hd'⟩ := drop_cons hd
    rw [List.length_take] at hi
    have hget : B[i]? = some c := by
      rw [List.getElem?_take] at hget9
      split at hget9
      · exact hget9
      · cases hget9
    have hlti : (i : Int) < B.length := by omega
    have hlti9 : (i : Int) < 9 := by omega
    have hc := hB c (List.mem_of_getElem? hget)
    have hm0 : 0 ≤ c % 128 := by omega
    have hm1 : c % 128 < 128 := by omega
    have hi8 : i ≤ 8 := by omega
    have hw := hw hi8
    subst hw
    have p2 := pow128_le hi8
    have p3 := pow128_pos i
    have p4 : c % 128 * 128 ^ i ≤ 127 * 128 ^ i := Int.mul_le_mul_of_nonneg_right (by omega) (by omega)
    have p5 : 0 ≤ c % 128 * 128 ^ i := Int.mul_nonneg hm0 (by omega)
    have hw1 : IntKind.i64.wrap (c % 128) = c % 128 := wrap_i64' (by omega) (by omega)
    have hw2 : IntKind.i64.wrap (c % 128 * 128 ^ i) = c % 128 * 128 ^ i := wrap_i64' (by omega) (by omega)
    have hw3 : IntKind.i64.wrap (n + c % 128 * 128 ^ i) = n + c % 128 * 128 ^ i := wrap_i64' (by omega) (by omega)
    have hw4 : IntKind.i64.wrap ((i : Int) + 1) = (i : Int) + 1 := wrap_i64' (by omega) (by omega)
    have hix : gIx B.length (.int .i64 i) = some i := by
      simp only [gIx]
      rw [if_pos (by omega)]; simp
    have hel : (u8s B)[i]? = some (.int .u8 c) := by simp [u8s, hget]
    have hsl : ∃ t, v = .sl 1 (u8s B) t := by
      generalize u8s B = xs at hE hel
      cases hE with
      | nil => simp at hel
      | sl _ t => exact ⟨t, rfl⟩
    obtain ⟨t, rfl⟩ := hsl
    have hpre : B.take (i + 1) = B.take i ++ [c] := by
      rw [List.take_add_one, hget]; rfl
    rw [run_loop, wp_seqK]
    rw [takeR] at hx hr
    by_cases h8 : i = 8 ∧ 64 ≤ c
    · rw [if_pos h8] at hx hr
      have h8a : (i : Int) = 8 := by omega
      simp [L0_hedgerowref02_Take, hv, h6, h4, h5, hlti, hlti9, hix, hel, eq_true h8a, h8.2]
      exact hr _ _ (.refl _ _) (by simp) (by simp)
    rw [if_neg h8] at hx hr
    by_cases hlow : c < 128
    · rw [if_pos hlow] at hx hr
      obtain ⟨s', H', hcall, hEs, hts, _⟩ := refPut_spec (n + c % 128 * 128 ^ i) (H := H) (Elems.nil (sz := 1)) hbt (by simp)
      have hb : gBounds (u8s B).length false true false [GV.int .i64 ((i : Int) + 1)] = some (0, i + 1, none) := by
        simp only [gBounds, gBound, u8s_length]
        rw [if_pos (by omega)]; simp
      obtain ⟨v', hcut, hE'⟩ := hE.cut hb
      simp only [Nat.sub_zero, List.drop_zero, ← u8s_take] at hE'
      simp only [List.nil_append] at hEs
      have heq : txt (putB (n + c % 128 * 128 ^ i)) = txt (B.take (i + 1)) ↔ putB (n + c % 128 * 128 ^ i) = B.take i ++ [c] := by
        rw [← hpre]; exact txt_inj (isB_putB _) (isB_take hB _)
      by_cases h8a : (i : Int) = 8
      · have h64 : ¬ 64 ≤ c := fun h => h8 ⟨by omega, h⟩
        by_cases hp : putB (n + c % 128 * 128 ^ i) = B.take i ++ [c]
        · rw [if_pos hp] at hx hr
          simp [L0_hedgerowref02_Take, hv, h6, h4, h5, hlti, hlti9, hix, hel, gInt_rem, mod256 hc.1, hw1, hw2, hw3, hw4, hlow, hcall, hEs.ok, b2s_u8s hEs, hcut, hE'.ok, b2s_u8s hE', eq_true (heq.2 hp), eq_true h8a, h64]
          refine hr _ _ hts ?_ ?_ <;> simp
        · rw [if_neg hp] at hx hr
          simp [L0_hedgerowref02_Take, hv, h6, h4, h5, hlti, hlti9, hix, hel, gInt_rem, mod256 hc.1, hw1, hw2, hw3, hw4, hlow, hcall, hEs.ok, b2s_u8s hEs, hcut, hE'.ok, b2s_u8s hE', eq_false (mt heq.1 hp), eq_true h8a, h64]
          refine hr _ _ hts ?_ ?_ <;> simp
      · 
        by_cases hp : putB (n + c % 128 * 128 ^ i) = B.take i ++ [c]
        · rw [if_pos hp] at hx hr
          simp [L0_hedgerowref02_Take, hv, h6, h4, h5, hlti, hlti9, hix, hel, gInt_rem, mod256 hc.1, hw1, hw2, hw3, hw4, hlow, hcall, hEs.ok, b2s_u8s hEs, hcut, hE'.ok, b2s_u8s hE', eq_true (heq.2 hp), h8a]
          refine hr _ _ hts ?_ ?_ <;> simp
        · rw [if_neg hp] at hx hr
          simp [L0_hedgerowref02_Take, hv, h6, h4, h5, hlti, hlti9, hix, hel, gInt_rem, mod256 hc.1, hw1, hw2, hw3, hw4, hlow, hcall, hEs.ok, b2s_u8s hEs, hcut, hE'.ok, b2s_u8s hE', eq_false (mt heq.1 hp), h8a]
          refine hr _ _ hts ?_ ?_ <;> simp
    · rw [if_neg hlow] at hx hr
      have hfin : ∀ w', (i + 1 ≤ 8 → w' = 128 ^ (i + 1)) → ∀ l', lget l' 0 = .sl 1 (u8s B) t → lget l' 6 = .int .i64 ((i + 1 : Nat) : Int) → lget l' 4 = .int .i64 (n + c % 128 * 128 ^ i) → lget l' 5 = .int .i64 w' → optW (erun T (.loop L0_hedgerowref02_Take) ⟨⟨l', g⟩, H⟩) K := by
        intro w' hw' l' q0 q6 q4 q5
        refine ih (i + 1) _ w' B hB hd' (by omega) (by rw [pow128_succ]; omega) (by omega) hw' hBl l' g H _ K q0 hE hbt q6 q4 q5 ?_ ?_
        · rw [hpre]; exact hx
        · rw [hpre]; exact hr
      have hw5 : i + 1 ≤ 8 → IntKind.i64.wrap (128 ^ i * 128) = 128 ^ (i + 1) := fun h => mul128 (by omega)
      generalize IntKind.i64.wrap (128 ^ i * 128) = w' at hw5
      by_cases h8a : (i : Int) = 8
      · have h64 : ¬ 64 ≤ c := fun h => h8 ⟨by omega, h⟩
        omega
      · simp [L0_hedgerowref02_Take, hv, h6, h4, h5, hlti, hlti9, hix, hel, gInt_rem, mod256 hc.1, hw1, hw2, hw3, hw4, hlow, h8a]
        exact hfin _ (fun h => mul128 (by omega)) _ (by simp [hv]) (by simp) (by simp) (by simp)

theorem refTake_spec {B : List Int} {v : GV} {H : GH} (hB : isB B) (hE : Elems 1 v (u8s B)) (hl : B.length ≤ 2 ^ 40) (hbt : H.bt ≤ H.toks.length) :
    ∃ H', ecall T f_hedgerowref02_Take [v] H = some (.tup [.int .i64 (take B).1, .int .i64 (take B).2], H') ∧ TokStep none H H' := by
  have key : optW (ecall T f_hedgerowref02_Take [v] H) fun r => r.1 = .tup [.int .i64 (take B).1, .int .i64 (take B).2] ∧ TokStep none H r.2 := by
    rw [ecall_0 T_hedgerowref02_Take rfl (by simp [F_hedgerowref02_Take]), wp_fin1]
    simp [F_hedgerowref02_Take, b_hedgerowref02_Take]
    rw [wp_seqK, wp_blockK]
    have htk : takeR 0 0 (B.take 0) ((B.take 9).drop 0) = take B := by
      rw [List.drop_zero, take_ref (B.take 9) 0 0 (B.take 0) (isB_take hB 9) (by simp) (by simp [valB]) (by simp) (by simpa using List.length_take_le 9 B)]
      rfl
    refine refTake_loop ((B.take 9).drop 0) 0 0 1 B hB rfl (by omega) (by simp) (by omega) (by simp) hl _ _ H v _ (by simp) hE hbt (by simp) (by simp) (by simp) ?_ ?_
    · intro l' H' ht h0
      rw [htk] at h0
      simp [h0, ht]
    · intro l' H' ht h2 h3
      rw [htk] at h2 h3
      simp [h2, h3, ht]
  obtain ⟨⟨s', H'⟩, h1, h2, h3⟩ := key
  simp only at h2 h3
  subst h2
  exact ⟨H', h1, h3⟩

end Go.Proofs.Ytiacgomjmijfcaa
