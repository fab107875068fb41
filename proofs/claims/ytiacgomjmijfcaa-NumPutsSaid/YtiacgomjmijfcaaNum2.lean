/- Own work, over the shadow machine: NumSpec2. -/
import Derived.Test.YtiacgomjmijfcaaNum1
set_option linter.all false
namespace Go.Proofs.Ytiacgomjmijfcaa
open Go.Sh

set_option maxHeartbeats 4000000 in
theorem refPut_loop (k : Int) : ∀ (_ : 0 ≤ k) (_ : k < 2 ^ 62) (l : List GV) (g : Nat) (H : GH) (s : GV) (xs : List GV) (K : GExit × St → Prop) (_ : lget l 5 = s) (_ : App H 1 s xs) (_ : H.bt ≤ H.toks.length) (_ : lget l 1 = .int .i64 k) (_ : xs.length + (hiB k).length ≤ 2 ^ 40)
    (_ : ∀ l' H' s', lget l' 5 = s' → lget l' 1 = .int .i64 (loB k) → Grown 1 H s (xs ++ u8s (hiB k)) H' s' → K (.exit 0, ⟨⟨l', g⟩, H'⟩)),
    optW (erun T (.loop L0_hedgerowref02_Put) ⟨⟨l, g⟩, H⟩) K := by
  fun_induction hiB k with
  | case1 k h =>
    intro h0 hk l g H s xs K hs ha hbt h1 hl hK
    have e2 : loB k = k := by rw [loB, if_pos h]
    have hc : ¬ (127 < k) := by omega
    rw [run_loop]
    simp [L0_hedgerowref02_Put, h1, hc]
    exact hK _ H s (by simp [hs]) (by simp [h1, e2]) (by simpa [u8s] using Grown.refl ha)
  | case2 k h ih =>
    intro h0 hk l g H s xs K hs ha hbt h1 hl hK
    have e2 : loB k = loB (k / 128) := by rw [loB, if_neg h]
    have hc : (127 < k) := by omega
    simp only [List.length_cons] at hl
    have hw : IntKind.u8.wrap (k % 128 + 128) = k % 128 + 128 := wrap_u8' (by omega) (by omega)
    have hw2 : IntKind.i64.wrap (k % 128 + 128) = k % 128 + 128 := wrap_i64' (by omega) (by omega)
    have hq : k.tdiv 128 = k / 128 := Int.tdiv_eq_ediv_of_nonneg h0
    have hw3 : IntKind.i64.wrap (k / 128) = k / 128 := wrap_i64' (by omega) (by omega)
    have hr : k.tmod 128 = k % 128 := Int.tmod_eq_emod_of_nonneg h0
    obtain ⟨s', H', hap, hg⟩ := append_grown (sz := 1) (bytes := 1) (x := .sl 1 (u8s [k % 128 + 128]) .exact) ha rfl hbt (by simp [room]; omega) (by simp [maxLen]; omega)
    simp [u8s] at hap
    rw [run_loop, wp_seqK]
    simp [L0_hedgerowref02_Put, hs, h1, hc, ha.ok, hg.ok, gInt_rem, gInt_quo, hr, hq, hw, hw2, hw3, hap, gSetAll]
    refine ih (by omega) (by omega) _ g H' s' (xs ++ u8s [k % 128 + 128]) K (by simp) hg.app (hg.step.btle hbt) (by simp) (by simp; omega) ?_
    intro l2 H2 s2 p0 p1 p2
    exact hK l2 H2 s2 p0 (by rw [e2]; exact p1) (by simpa [u8s] using hg.trans p2)

theorem refPut_spec (n : Int) {H : GH} {s : GV} {xs : List GV} (ha : Elems 1 s xs) (hbt : H.bt ≤ H.toks.length) (hl : xs.length ≤ 2 ^ 39) :
    ∃ s' H', ecall T f_hedgerowref02_Put [s, .int .i64 n] H = some (s', H') ∧ Elems 1 s' (xs ++ u8s (putB n)) ∧ TokStep none H H' ∧ (0 ≤ n → n ≤ 4611686018427387903 → App H' 1 s' (xs ++ u8s (putB n)) ∧ ∀ t, tokOf s' = some t → H.toks.length ≤ t) := by
  have key : optW (ecall T f_hedgerowref02_Put [s, .int .i64 n] H) fun r => Elems 1 r.1 (xs ++ u8s (putB n)) ∧ TokStep none H r.2 ∧ (0 ≤ n → n ≤ 4611686018427387903 → App r.2 1 r.1 (xs ++ u8s (putB n)) ∧ ∀ t, tokOf r.1 = some t → H.toks.length ≤ t) := by
    rw [ecall_0 T_hedgerowref02_Put rfl (by simp [F_hedgerowref02_Put]), wp_fin1]
    by_cases h0 : n < 0
    · have e : putB n = [] := by rw [putB, if_pos (.inl h0)]
      simp [F_hedgerowref02_Put, b_hedgerowref02_Put, h0, ha.ok, e]
      exact ⟨by simpa [u8s] using ha, .refl _ _, by omega⟩
    by_cases h1 : 4611686018427387904 ≤ n
    · have e : putB n = [] := by rw [putB, if_pos (.inr (by omega))]
      simp [F_hedgerowref02_Put, b_hedgerowref02_Put, h0, h1, ha.ok, e]
      exact ⟨by simpa [u8s] using ha, .refl _ _, by omega⟩
    have e : putB n = hiB n ++ [loB n] := by rw [putB, if_neg (by omega), numB]
    have hlen : (hiB n).length ≤ 8 := hiB_len 8 n (by omega)
    obtain ⟨s0, H0, hap0, hg0⟩ := append_grown (H := H) (sz := 1) (bytes := 1) (x := s) (App.exact []) ha.news hbt (by simp [room]; omega) (by simp [maxLen]; omega)
    simp [F_hedgerowref02_Put, b_hedgerowref02_Put, h0, h1, ha.ok, gSetAll, hap0, hg0.ok]
    rw [wp_seqK, wp_blockK]
    refine refPut_loop n (by omega) (by omega) _ _ H0 s0 xs _ (by simp) (by simpa using hg0.app) (hg0.step.btle hbt) (by simp) (by omega) ?_
    intro l' H' s' p0 p1 p2
    have hlo := loB_le (k := n) (by omega)
    have hw : IntKind.u8.wrap (loB n) = loB n := wrap_u8' (by omega) (by omega)
    obtain ⟨s2, H2, hap, hg⟩ := append_grown (sz := 1) (bytes := 1) (x := .sl 1 (u8s [loB n]) .exact) p2.app rfl (p2.step.btle (hg0.step.btle hbt)) (by simp [room]; omega) (by simp [maxLen]; omega)
    simp [u8s] at hap
    simp [p0, p1, p2.ok, hw, gSetAll, hap, hg.ok, e]
    have hall := (hg0.trans p2).trans hg
    have e3 : xs ++ u8s (hiB n) ++ u8s [loB n] = xs ++ u8s (hiB n ++ [loB n]) := by simp [u8s]
    rw [e3] at hall
    refine ⟨hall.app.elems, hall.step, fun _ _ => ⟨hall.app, fun t ht => ?_⟩⟩
    rcases hall.heir with h | h
    · rw [h] at ht; simp [tokOf] at ht
    · exact h t ht
  obtain ⟨⟨s', H'⟩, h1, h2⟩ := key
  exact ⟨s', H', h1, h2⟩

theorem refSigned_spec (n : Int) {H : GH} {s : GV} {xs : List GV} (ha : Elems 1 s xs) (hbt : H.bt ≤ H.toks.length) (hl : xs.length ≤ 2 ^ 39) :
    ∃ s' H', ecall T f_hedgerowref02_Signed [s, .int .i64 n] H = some (s', H') ∧ Elems 1 s' (xs ++ u8s (sigB n)) ∧ TokStep none H H' := by
  have key : optW (ecall T f_hedgerowref02_Signed [s, .int .i64 n] H) fun r => Elems 1 r.1 (xs ++ u8s (sigB n)) ∧ TokStep none H r.2 := by
    rw [ecall_0 T_hedgerowref02_Signed rfl (by simp [F_hedgerowref02_Signed]), wp_fin1]
    by_cases h0 : n < -1152921504606846976
    · have e : sigB n = [] := by rw [sigB, if_pos (.inl h0)]
      simp [F_hedgerowref02_Signed, b_hedgerowref02_Signed, h0, ha.ok, e]
      exact ⟨by simpa [u8s] using ha, .refl _ _⟩
    by_cases h1 : 1152921504606846976 < n
    · have e : sigB n = [] := by rw [sigB, if_pos (.inr h1)]
      simp [F_hedgerowref02_Signed, b_hedgerowref02_Signed, h0, h1, ha.ok, e]
      exact ⟨by simpa [u8s] using ha, .refl _ _⟩
    by_cases h2 : n < 0
    · have e : sigB n = putB (-2 * n - 1) := by rw [sigB, if_neg (by omega), if_pos h2]
      obtain ⟨s', H', hc, hg, ht, _⟩ := refPut_spec (-2 * n - 1) ha hbt hl
      simp [F_hedgerowref02_Signed, b_hedgerowref02_Signed, h0, h1, h2, ha.ok, e, wrap_i64' (n := -2 * n) (by omega) (by omega), wrap_i64' (n := -2 * n - 1) (by omega) (by omega), hc, hg.ok, hg, ht]
    · have e : sigB n = putB (2 * n) := by rw [sigB, if_neg (by omega), if_neg h2]
      obtain ⟨s', H', hc, hg, ht, _⟩ := refPut_spec (2 * n) ha hbt hl
      simp [F_hedgerowref02_Signed, b_hedgerowref02_Signed, h0, h1, h2, ha.ok, e, wrap_i64' (n := 2 * n) (by omega) (by omega), hc, hg.ok, hg, ht]
  obtain ⟨⟨s', H'⟩, h1, h2⟩ := key
  exact ⟨s', H', h1, h2⟩

theorem refText_spec (t : ByteArray) (ht : t.size ≤ 2 ^ 39) {H : GH} {s : GV} {xs : List GV} (ha : Elems 1 s xs) (hbt : H.bt ≤ H.toks.length) (hl : xs.length ≤ 2 ^ 39) :
    ∃ s' H', ecall T f_hedgerowref02_Text [s, .str t] H = some (s', H') ∧ Elems 1 s' (xs ++ u8s (putB t.size) ++ bytesGV t) ∧ TokStep none H H' := by
  have key : optW (ecall T f_hedgerowref02_Text [s, .str t] H) fun r => Elems 1 r.1 (xs ++ u8s (putB t.size) ++ bytesGV t) ∧ TokStep none H r.2 := by
    rw [ecall_0 T_hedgerowref02_Text rfl (by simp [F_hedgerowref02_Text]), wp_fin1]
    obtain ⟨s', H', hc, he, hs, hx⟩ := refPut_spec t.size ha hbt hl
    obtain ⟨happ, hown⟩ := hx (by omega) (by omega)
    have := putB_len t.size
    obtain ⟨s2, H2, hap, hg2⟩ := append_grown (sz := 1) (bytes := 1) (x := .str t) happ rfl (hs.btle hbt) (by simp only [List.length_append, u8s_length, bytesGV_length, room]; omega) (by simp only [List.length_append, u8s_length, bytesGV_length, maxLen]; omega)
    simp [F_hedgerowref02_Text, b_hedgerowref02_Text, ha.ok, hc, he.ok, hap, hg2.ok]
    refine ⟨by simpa using hg2.app.elems, ⟨hg2.step.objs.trans hs.objs, hg2.step.bo.trans hs.bo, hg2.step.bt.trans hs.bt, Nat.le_trans hs.len hg2.step.len, fun t p hne hp => ?_⟩⟩
    refine hg2.step.tok t p (fun e => ?_) (hs.tok t p hne hp)
    have := hown t e
    have := (List.getElem?_eq_some_iff.1 hp).1
    omega
  obtain ⟨⟨s', H'⟩, h1, h2⟩ := key
  exact ⟨s', H', h1, h2⟩

end Go.Proofs.Ytiacgomjmijfcaa
