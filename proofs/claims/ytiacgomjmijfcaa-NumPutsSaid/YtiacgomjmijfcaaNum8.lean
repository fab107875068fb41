/- Own work, over the shadow machine: NumSpec7. -/
import Derived.Test.YtiacgomjmijfcaaNum7
import Derived.Test.YtiacgomjmijfcaaShF
set_option linter.all false
namespace Go.Proofs.Ytiacgomjmijfcaa
open Go.Sh
set_option maxRecDepth 100000

/-! ## What is read of what was put -/

theorem rd_num {k most : Int} (h0 : 0 ≤ k) (h1 : k ≤ 4611686018427387903) (hm : k ≤ most) (rest : List Int) : rdNum (putB k ++ rest) false most = (k, rest, false) := by
  have e : putB k = numB k := by rw [putB, if_neg (by omega)]
  have hp := numB_pos k
  rw [rdNum, e, take_numB h0 h1]
  simp only [Bool.false_eq_true, if_false]
  rw [if_neg (by omega)]
  simp

theorem rd_sig {z : Int} (h0 : -1152921504606846976 < z) (h1 : z < 1152921504606846976) (rest : List Int) :
    ∃ m, rdNum (sigB z ++ rest) false 2305843009213693952 = (m, rest, false) ∧ sgn m = z := by
  rw [sigB, if_neg (by omega)]
  by_cases hz : z < 0
  · rw [if_pos hz]
    refine ⟨_, rd_num (by omega) (by omega) (by omega) rest, ?_⟩
    rw [sgn, if_pos (by omega)]
    omega
  · rw [if_neg hz]
    refine ⟨_, rd_num (by omega) (by omega) (by omega) rest, ?_⟩
    rw [sgn, if_neg (by omega)]
    omega

theorem tmod_bounds (n : Int) {m : Int} (h : 0 < m) : -m < n.tmod m ∧ n.tmod m < m := by
  constructor
  · exact Int.lt_tmod_of_pos n h
  · exact Int.tmod_lt_of_pos n h

theorem isB_sigB (z : Int) : isB (sigB z) := by
  rw [sigB]
  split
  · intro x hx; simp at hx
  · split <;> exact isB_putB _

/-! ## Numbers' rows -/

def i64s (l : List Int) : List GV := l.map fun n => .int .i64 n
@[simp] theorem i64s_length (l : List Int) : (i64s l).length = l.length := by simp [i64s]

/-- The n-th number, put. -/
def sg (n : Int) : List Int := sigB (n.tmod 576460752303423488)

theorem rows_loop0 (ns : List Int) : ∀ (i : Nat) (L : List Int) (_ : L.drop i = ns) (_ : L.length ≤ 60) (l : List GV) (g : Nat) (H : GH) (v : GV) (s : GV) (xs : List GV) (K : GExit × St → Prop) (_ : lget l 14 = v) (_ : Elems 1 v (i64s L)) (_ : lget l 15 = .int .i64 L.length) (_ : lget l 16 = .int .i64 i)
    (_ : lget l 3 = s) (_ : App H 1 s xs) (_ : H.bt ≤ H.toks.length) (_ : xs.length ≤ 9 * i)
    (_ : ∀ l' H' s', lget l' 3 = s' → lget l' 0 = lget l 0 → Grown 1 H s (xs ++ u8s (ns.flatMap sg)) H' s' → K (.exit 0, ⟨⟨l', g⟩, H'⟩)),
    optW (erun T (.loop L0_hedgerowlaw02_NumRows) ⟨⟨l, g⟩, H⟩) K := by
  induction ns with
  | nil =>
    intro i L hd hL l g H v s xs K h14 hE h15 h16 h3 ha hbt hlen hK
    have hge : ¬ ((i : Int) < L.length) := by have := List.drop_eq_nil_iff.1 hd; omega
    rw [run_loop]
    simp [L0_hedgerowlaw02_NumRows, h15, h16, hge]
    exact hK _ H s (by simp [h3]) (by simp) (by simpa [u8s] using Grown.refl ha)
  | cons c cs ih =>
    intro i L hd hL l g H v s xs K h14 hE h15 h16 h3 ha hbt hlen hK
    obtain ⟨hget, hi, hd'⟩ := drop_cons hd
    have hlti : (i : Int) < L.length := by omega
    have hix : gIx L.length (.int .i64 i) = some i := by
      simp only [gIx]
      rw [if_pos (by omega)]; simp
    have hel : (i64s L)[i]? = some (.int .i64 c) := by simp [i64s, hget]
    obtain ⟨t, rfl⟩ := hE.is_sl hel
    have hw : IntKind.i64.wrap ((i : Int) + 1) = (i : Int) + 1 := wrap_i64' (by omega) (by omega)
    obtain ⟨s', H', hc, hg⟩ := signed_spec (c.tmod 576460752303423488) ha hbt (by omega)
    have hsl := sigB_len (c.tmod 576460752303423488)
    rw [run_loop, wp_seqK]
    simp [L0_hedgerowlaw02_NumRows, h14, h15, h16, h3, hlti, hix, hel, ha.ok, gInt_rem, hc, hg.ok, hw]
    refine ih (i + 1) L hd' hL _ g H' _ s' (xs ++ u8s (sg c)) K (by simp [h14]) hE (by simp [h15]) (by simp) (by simp) hg.app (hg.step.btle hbt) (by simp [sg]; omega) ?_
    intro l2 H2 s2 p0 p1 p2
    refine hK l2 H2 s2 p0 (by rw [p1]; simp) ?_
    have := hg.trans p2
    simpa [u8s] using this

theorem rows_loop1 (ns : List Int) : ∀ (i : Nat) (L : List Int) (_ : L.drop i = ns) (_ : L.length ≤ 60) (l : List GV) (g : Nat) (H : GH) (v : GV) (id : Nat) (K : GExit × St → Prop) (_ : lget l 27 = v) (_ : Elems 1 v (i64s L)) (_ : lget l 28 = .int .i64 L.length) (_ : lget l 29 = .int .i64 i)
    (_ : lget l 6 = .ptr id 0) (_ : Rd H id (ns.flatMap sg) false)
    (_ : ∀ l' H', lget l' 6 = .ptr id 0 → Rd H' id [] false → K (.exit 2, ⟨⟨l', g⟩, H'⟩)),
    optW (erun T (.loop L1_hedgerowlaw02_NumRows) ⟨⟨l, g⟩, H⟩) K := by
  induction ns with
  | nil =>
    intro i L hd hL l g H v id K h27 hE h28 h29 h6 hR hK
    have hge : ¬ ((i : Int) < L.length) := by have := List.drop_eq_nil_iff.1 hd; omega
    rw [run_loop]
    simp [L1_hedgerowlaw02_NumRows, h28, h29, hge]
    exact hK _ H (by simp [h6]) (by simpa using hR)
  | cons c cs ih =>
    intro i L hd hL l g H v id K h27 hE h28 h29 h6 hR hK
    obtain ⟨hget, hi, hd'⟩ := drop_cons hd
    have hlti : (i : Int) < L.length := by omega
    have hix : gIx L.length (.int .i64 i) = some i := by
      simp only [gIx]
      rw [if_pos (by omega)]; simp
    have hel : (i64s L)[i]? = some (.int .i64 c) := by simp [i64s, hget]
    obtain ⟨t, rfl⟩ := hE.is_sl hel
    have hw : IntKind.i64.wrap ((i : Int) + 1) = (i : Int) + 1 := wrap_i64' (by omega) (by omega)
    obtain ⟨b1, b2⟩ := tmod_bounds c (m := 576460752303423488) (by omega)
    rw [List.flatMap_cons] at hR
    obtain ⟨m, hm, hs⟩ := rd_sig (z := c.tmod 576460752303423488) (by omega) (by omega) (cs.flatMap sg)
    obtain ⟨H', hc, hR', hmod⟩ := rsigned_spec hR
    rw [show sg c = sigB (c.tmod 576460752303423488) from rfl, hm] at hc hR'
    simp only [hs] at hc hR'
    have hf := fail_spec hR
    rw [run_loop, wp_seqK]
    simp [L1_hedgerowlaw02_NumRows, h27, h28, h29, h6, hlti, hix, hel, hf, gInt_rem, hc, hw]
    exact ih (i + 1) L hd' hL _ g H' _ id K (by simp [h27]) hE (by simp [h28]) (by simp) (by simp [h6]) hR' hK

theorem rows_law (L : List Int) (v : GV) (hv : Elems 1 v (i64s L)) (H : GH) (hbt : H.bt ≤ H.toks.length) (hbo : H.bo ≤ H.objs.length) : ∃ H', ecall T f_hedgerowlaw02_NumRows [v] H = some (.bool true, H') := by
  have key : optW (ecall T f_hedgerowlaw02_NumRows [v] H) fun r => r.1 = .bool true := by
    rw [ecall_0 T_hedgerowlaw02_NumRows rfl (by simp [F_hedgerowlaw02_NumRows]), wp_fin1]
    by_cases h60 : (60 : Int) < L.length
    · simp [F_hedgerowlaw02_NumRows, b_hedgerowlaw02_NumRows, fixed_spec, hv.ok, hv.len, h60]
    simp [F_hedgerowlaw02_NumRows, b_hedgerowlaw02_NumRows, fixed_spec, hv.ok, hv.len, h60]
    rw [wp_seqK, wp_blockK]
    refine rows_loop0 L 0 L rfl (by omega) _ _ H v .nilsl [] _ (by simp) hv (by simp) (by simp) (by simp) .nil hbt (by simp) ?_
    intro l1 H1 s1 p0 p1 p2
    have hbo1 : H1.bo ≤ H1.objs.length := by rw [p2.step.bo, p2.step.objs]; exact hbo
    have hisb : isB (L.flatMap sg) := by
      intro x hx
      obtain ⟨n, _, hn⟩ := List.mem_flatMap.1 hx
      exact isB_sigB _ x hn
    have hlen : (L.flatMap sg).length ≤ 9 * L.length := by
      have : ∀ M : List Int, (M.flatMap sg).length ≤ 9 * M.length := by
        intro M
        induction M with
        | nil => simp
        | cons a M ihM =>
          have := sigB_len (a.tmod 576460752303423488)
          simp only [List.flatMap_cons, List.length_append, List.length_cons, sg]
          omega
      exact this L
    obtain ⟨H2, hr, hR, hm2⟩ := read_spec (v := s1) (B := L.flatMap sg) (by simpa using p2.app.elems) hisb (by omega) hbo1
    simp at p1
    simp [p0, p1, p2.ok, hr, hv.ok, hv.len]
    rw [wp_seqK, wp_blockK]
    refine rows_loop1 L 0 L rfl (by omega) _ _ H2 v H1.objs.length _ (by simp) hv (by simp) (by simp) (by simp) hR ?_
    intro l2 H3 q0 hR3
    have hd := done_spec hR3
    obtain ⟨H4, hn, hR4, hm4⟩ := num_spec hR3 9
    have hf := fail_spec hR4
    have e : rdNum [] false 9 = (0, [], true) := by simp [rdNum, take, takeP]
    rw [e] at hn hR4 hf
    simp at hd hn hf
    simp [q0, hd, hn, hf]
  obtain ⟨⟨r, H'⟩, e1, e2⟩ := key
  simp only at e2
  subst e2
  exact ⟨H', e1⟩

end Go.Proofs.Ytiacgomjmijfcaa
