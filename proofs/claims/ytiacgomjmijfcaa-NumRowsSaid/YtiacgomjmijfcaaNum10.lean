/- Own work, over the shadow machine: NumSpec9. -/
import Derived.Test.YtiacgomjmijfcaaNum9
set_option linter.all false
namespace Go.Proofs.Ytiacgomjmijfcaa
open Go.Sh
set_option maxRecDepth 100000

def acts (l : List (Int × Int)) : List GV := l.map fun a => .agg [.int .u8 a.1, .int .i64 a.2]
@[simp] theorem acts_length (l : List (Int × Int)) : (acts l).length = l.length := by simp [acts]

theorem drop_cons' {α : Type} {B : List α} {i : Nat} {c : α} {cs : List α} (h : B.drop i = c :: cs) : B[i]? = some c ∧ i < B.length ∧ B.drop (i + 1) = cs := by
  have h1 : (B.drop i)[0]? = some c := by rw [h]; rfl
  rw [List.getElem?_drop] at h1
  refine ⟨by simpa using h1, (List.getElem?_eq_some_iff.1 h1).1, ?_⟩
  rw [← List.drop_drop, h]; rfl

set_option maxHeartbeats 4000000 in
theorem reads_loop (zs : List (Int × Int)) : ∀ (i : Nat) (L : List (Int × Int)) (_ : L.drop i = zs) (_ : L.length ≤ 60) (_ : ∀ a ∈ L, 0 ≤ a.1 ∧ a.1 ≤ 255) (l : List GV) (g : Nat) (H : GH) (v : GV) (p q : Nat) (B : List Int) (bad : Bool) (K : GExit × St → Prop) (_ : lget l 25 = v) (_ : Elems 2 v (acts L))
    (_ : lget l 26 = .int .i64 L.length) (_ : lget l 27 = .int .i64 i) (_ : lget l 5 = .ptr p 0) (_ : lget l 6 = .ptr q 0) (_ : p ≠ q) (_ : Rd H p B bad) (_ : Rd H q B bad) (_ : H.bt ≤ H.toks.length)
    (_ : ∀ l' g' H', K (.exit 0, ⟨⟨l', g'⟩, H'⟩)),
    optW (erun T (.loop L0_hedgerowlaw02_NumReads) ⟨⟨l, g⟩, H⟩) K := by
  induction zs with
  | nil =>
    intro i L hd hL hA l g H v p q B bad K h25 hE h26 h27 h5 h6 hpq hP hQ hbt hK
    have hge : ¬ ((i : Int) < L.length) := by have := List.drop_eq_nil_iff.1 hd; omega
    rw [run_loop]
    simp [L0_hedgerowlaw02_NumReads, h26, h27, hge]
    exact hK _ _ _
  | cons c cs ih =>
    intro i L hd hL hA l g H v p q B bad K h25 hE h26 h27 h5 h6 hpq hP hQ hbt hK
    obtain ⟨hget, hi, hd'⟩ := drop_cons' hd
    obtain ⟨k, m⟩ := c
    have hkb := hA _ (List.mem_of_getElem? hget)
    simp only at hkb
    have hlti : (i : Int) < L.length := by omega
    have hix : gIx L.length (.int .i64 i) = some i := by
      simp only [gIx]
      rw [if_pos (by omega)]; simp
    have hel : (acts L)[i]? = some (.agg [.int .u8 k, .int .i64 m]) := by simp [acts, hget]
    obtain ⟨t, rfl⟩ := hE.is_sl hel
    have hw : IntKind.i64.wrap ((i : Int) + 1) = (i : Int) + 1 := wrap_i64' (by omega) (by omega)
    have hk3 : k.tmod 3 = k % 3 := Int.tmod_eq_emod_of_nonneg hkb.1
    -- what both come to
    have core : ∀ (B' : List Int) (bad' : Bool) (H1 H2 : GH), Rd H1 p B' bad' → Mods (· = p) H H1 → Rd H2 q B' bad' → Mods (· = q) H1 H2 → ∃ v2, H2.objs[q]? = some (.cells [v2, .bool bad']) ∧ Elems 1 v2 (u8s B') ∧ Rd H2 p B' bad' ∧ H2.bt ≤ H2.toks.length ∧
        ecall T f_num_Reader_Left [.ptr p 0] H2 = some (.int .i64 (if bad' = true then 0 else B'.length), H2) ∧ ecall T f_hedgerowref02_Reader_Left [.ptr q 0] H2 = some (.int .i64 (if bad' = true then 0 else B'.length), H2) ∧
        ecall T f_num_Reader_Fail [.ptr p 0] H2 = some (.bool bad', H2) ∧ ecall T f_num_Reader_Done [.ptr p 0] H2 = some (.bool (!bad' && decide (B' = [])), H2) := by
      intro B' bad' H1 H2 r1 m1 r2 m2
      have r1' := r1.mods m2 (fun e => hpq e)
      obtain ⟨v2, w1, w2⟩ := r2.ex
      exact ⟨v2, w1, w2, r1', m2.btle (m1.btle hbt), left_spec r1', refLeft_spec r2, fail_spec r1', done_spec r1'⟩
    rw [run_loop, wp_seqK]
    have h3 : k % 3 = 0 ∨ k % 3 = 1 ∨ k % 3 = 2 := by omega
    rcases h3 with h3 | h3 | h3
    · obtain ⟨H1, c1, r1, m1⟩ := num_spec hP m
      obtain ⟨H2, c2, r2, m2⟩ := refNum_spec (hQ.mods m1 (fun e => hpq e.symm)) m (m1.btle hbt)
      generalize rdNum B bad m = res at c1 c2 r1 r2
      obtain ⟨x, B', bad'⟩ := res
      simp only at c1 c2 r1 r2
      obtain ⟨v2, w1, w2, r1', hbt', f1, f2, f3, f4⟩ := core B' bad' H1 H2 r1 m1 r2 m2
      cases hb : bad' with
      | true =>
        subst hb
        simp at f1 f2 f4
        simp [L0_hedgerowlaw02_NumReads, h25, h26, h27, h5, h6, hlti, hix, hel, setPart, gInt_rem, hk3, h3, c1, c2, f1, f2, f3, f4, w1, hw]
        exact ih (i + 1) L hd' hL hA _ _ H2 _ p q B' true K (by simp [h25]) hE (by simp [h26]) (by simp) (by simp [h5]) (by simp [h6]) hpq r1' r2 hbt' hK
      | false =>
        subst hb
        simp at f1 f2 f4
        simp [L0_hedgerowlaw02_NumReads, h25, h26, h27, h5, h6, hlti, hix, hel, setPart, gInt_rem, hk3, h3, c1, c2, f1, f2, f3, f4, w1, w2.ok, w2.len, hw]
        exact ih (i + 1) L hd' hL hA _ _ H2 _ p q B' false K (by simp [h25]) hE (by simp [h26]) (by simp) (by simp [h5]) (by simp [h6]) hpq r1' r2 hbt' hK
    · obtain ⟨H1, c1, r1, m1⟩ := rsigned_spec hP
      obtain ⟨H2, c2, r2, m2⟩ := refRsigned_spec (hQ.mods m1 (fun e => hpq e.symm)) (m1.btle hbt)
      generalize rdNum B bad 2305843009213693952 = res at c1 c2 r1 r2
      obtain ⟨x, B', bad'⟩ := res
      simp only at c1 c2 r1 r2
      obtain ⟨v2, w1, w2, r1', hbt', f1, f2, f3, f4⟩ := core B' bad' H1 H2 r1 m1 r2 m2
      cases hb : bad' with
      | true =>
        subst hb
        simp at f1 f2 f4
        simp [L0_hedgerowlaw02_NumReads, h25, h26, h27, h5, h6, hlti, hix, hel, setPart, gInt_rem, hk3, h3, c1, c2, f1, f2, f3, f4, w1, hw]
        exact ih (i + 1) L hd' hL hA _ _ H2 _ p q B' true K (by simp [h25]) hE (by simp [h26]) (by simp) (by simp [h5]) (by simp [h6]) hpq r1' r2 hbt' hK
      | false =>
        subst hb
        simp at f1 f2 f4
        simp [L0_hedgerowlaw02_NumReads, h25, h26, h27, h5, h6, hlti, hix, hel, setPart, gInt_rem, hk3, h3, c1, c2, f1, f2, f3, f4, w1, w2.ok, w2.len, hw]
        exact ih (i + 1) L hd' hL hA _ _ H2 _ p q B' false K (by simp [h25]) hE (by simp [h26]) (by simp) (by simp [h5]) (by simp [h6]) hpq r1' r2 hbt' hK
    · obtain ⟨H1, c1, r1, m1⟩ := rtext_spec hP m
      obtain ⟨H2, c2, r2, m2⟩ := refRtext_spec (hQ.mods m1 (fun e => hpq e.symm)) m (m1.btle hbt)
      generalize rdText B bad m = res at c1 c2 r1 r2
      obtain ⟨x, B', bad'⟩ := res
      simp only at c1 c2 r1 r2
      obtain ⟨v2, w1, w2, r1', hbt', f1, f2, f3, f4⟩ := core B' bad' H1 H2 r1 m1 r2 m2
      cases hb : bad' with
      | true =>
        subst hb
        simp at f1 f2 f4
        simp [L0_hedgerowlaw02_NumReads, h25, h26, h27, h5, h6, hlti, hix, hel, setPart, gInt_rem, hk3, h3, c1, c2, f1, f2, f3, f4, w1, hw]
        exact ih (i + 1) L hd' hL hA _ _ H2 _ p q B' true K (by simp [h25]) hE (by simp [h26]) (by simp) (by simp [h5]) (by simp [h6]) hpq r1' r2 hbt' hK
      | false =>
        subst hb
        simp at f1 f2 f4
        simp [L0_hedgerowlaw02_NumReads, h25, h26, h27, h5, h6, hlti, hix, hel, setPart, gInt_rem, hk3, h3, c1, c2, f1, f2, f3, f4, w1, w2.ok, w2.len, hw]
        exact ih (i + 1) L hd' hL hA _ _ H2 _ p q B' false K (by simp [h25]) hE (by simp [h26]) (by simp) (by simp [h5]) (by simp [h6]) hpq r1' r2 hbt' hK

theorem reads_law (B : List Int) (v : GV) (hv : Elems 1 v (u8s B)) (hB : isB B) (L : List (Int × Int)) (u : GV) (hu : Elems 2 u (acts L)) (hA : ∀ a ∈ L, 0 ≤ a.1 ∧ a.1 ≤ 255) (H : GH) (hbt : H.bt ≤ H.toks.length) (hbo : H.bo ≤ H.objs.length) : ∃ H', ecall T f_hedgerowlaw02_NumReads [v, u] H = some (.bool true, H') := by
  have key : optW (ecall T f_hedgerowlaw02_NumReads [v, u] H) fun r => r.1 = .bool true := by
    rw [ecall_0 T_hedgerowlaw02_NumReads rfl (by simp [F_hedgerowlaw02_NumReads]), wp_fin1]
    by_cases hl1 : (200 : Int) < B.length
    · simp [F_hedgerowlaw02_NumReads, b_hedgerowlaw02_NumReads, fixed_spec, hv.ok, hv.len, hl1]
    by_cases hl2 : (60 : Int) < L.length
    · simp [F_hedgerowlaw02_NumReads, b_hedgerowlaw02_NumReads, fixed_spec, hv.ok, hv.len, hu.ok, hu.len, hl1, hl2]
    obtain ⟨H1, hr, hR, hm⟩ := read_spec hv hB (by omega) hbo
    have hlen : H.objs.length < H1.objs.length := hR.lt
    have hbo1 : H1.bo ≤ H1.objs.length := by rw [hm.bo]; omega
    have hR2 : Rd (H1.newObj (.cells [v, .bool false])) H1.objs.length B false := ⟨⟨v, by simp [GH.newObj], hv⟩, hbo1, hB, by omega⟩
    have hR1 := hR.mods (Mods.new (fun _ => False) H1 (.cells [v, .bool false])) (fun h => h)
    simp [F_hedgerowlaw02_NumReads, b_hedgerowlaw02_NumReads, fixed_spec, hv.ok, hv.len, hu.ok, hu.len, hl1, hl2, hr, gFill, setPart, hv.cells]
    rw [wp_seqK, wp_blockK]
    refine reads_loop L 0 L rfl (by omega) hA _ _ _ u _ _ B false _ (by simp) hu (by simp) (by simp) (by simp) (by simp) (by omega) hR1 hR2 ((Mods.new (fun _ => False) H1 (.cells [v, .bool false])).btle (hm.btle hbt)) ?_
    intro l' g' H'
    simp
  obtain ⟨⟨r, H'⟩, e1, e2⟩ := key
  simp only at e2
  subst e2
  exact ⟨H', e1⟩

end Go.Proofs.Ytiacgomjmijfcaa
