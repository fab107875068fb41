/- Own work, over the shadow machine: NumSpec8. -/
import Derived.Test.YtiacgomjmijfcaaNum8
set_option linter.all false
namespace Go.Proofs.Ytiacgomjmijfcaa
open Go.Sh
set_option maxRecDepth 100000

def bytesI (s : ByteArray) : List Int := s.data.toList.map fun b => (b.toNat : Int)

theorem bytesGV_u8s (s : ByteArray) : bytesGV s = u8s (bytesI s) := by simp [bytesGV, u8s, bytesI]

theorem isB_bytesI (s : ByteArray) : isB (bytesI s) := by
  intro x hx
  obtain ⟨b, _, rfl⟩ := List.mem_map.1 hx
  have := b.toNat_lt
  omega

theorem bytesI_length (s : ByteArray) : (bytesI s).length = s.size := by
  unfold bytesI; rw [List.length_map, Array.length_toList]; rfl

theorem txt_bytesI (s : ByteArray) : txt (bytesI s) = s := by
  have h : (bytesI s).map byte = s.data.toList := by
    unfold bytesI
    rw [List.map_map]
    have : (byte ∘ fun (b : UInt8) => (b.toNat : Int)) = id := by
      funext b
      show UInt8.ofNat ((b.toNat : Int)).toNat = b
      rw [Int.toNat_natCast]
      exact UInt8.ofNat_toNat
    rw [this, List.map_id]
  unfold txt
  rw [h]

theorem rd_text {s : ByteArray} (hs : s.size ≤ 200) : rdText (putB s.size ++ bytesI s) false 200 = (s, [], false) := by
  have h := rd_num (k := s.size) (most := 200) (by omega) (by omega) (by omega) (bytesI s)
  rw [rdText, h]
  have hl := bytesI_length s
  simp only [Bool.false_eq_true, false_or, Int.toNat_natCast]
  rw [if_neg (by omega), List.take_of_length_le (by omega), List.drop_of_length_le (by omega), txt_bytesI]

theorem puts_law (B : List Int) (v : GV) (hv : Elems 1 v (u8s B)) (hB : isB B) (n : Int) (s : ByteArray) (H : GH) (hbt : H.bt ≤ H.toks.length) (hbo : H.bo ≤ H.objs.length) : ∃ H', ecall T f_hedgerowlaw02_NumPuts [v, .int .i64 n, .str s] H = some (.bool true, H') := by
  have key : optW (ecall T f_hedgerowlaw02_NumPuts [v, .int .i64 n, .str s] H) fun r => r.1 = .bool true := by
    rw [ecall_0 T_hedgerowlaw02_NumPuts rfl (by simp [F_hedgerowlaw02_NumPuts]), wp_fin1]
    by_cases hl1 : (100 : Int) < B.length
    · simp [F_hedgerowlaw02_NumPuts, b_hedgerowlaw02_NumPuts, fixed_spec, hv.ok, hv.len, hl1]
    by_cases hl2 : (200 : Int) < s.size
    · simp [F_hedgerowlaw02_NumPuts, b_hedgerowlaw02_NumPuts, fixed_spec, hv.ok, hv.len, hl1, hl2]
    have hz := tmod_bounds n (m := 1152921504606846976) (by omega)
    have hput : ∀ m : Int, (putB m).length ≤ 9 := putB_len
    have hsig : ∀ m : Int, (sigB m).length ≤ 9 := sigB_len
    have hp1 := putB_len n
    have hp2 := sigB_len n
    have hp3 := putB_len (s.size : Int)
    -- one
    obtain ⟨a1, H1, d1, g1⟩ := append_grown (H := H) (sz := 1) (bytes := 1) (x := v) (App.exact []) hv.news hbt (by simp [room]; omega) (by simp [maxLen]; omega)
    have t1 := g1.step.btle hbt
    have e1 := g1.app
    simp only [List.nil_append] at e1
    obtain ⟨a2, H2, d2, g2⟩ := put_spec n e1 t1 (by simp; omega)
    have t2 := g2.step.btle t1
    have e2 := g2.app.elems
    rw [← u8s_append] at e2
    obtain ⟨a3, H3, d3, e3, s3, _⟩ := refPut_spec n hv t2 (by simp; omega)
    have t3 := s3.btle t2
    rw [← u8s_append] at e3
    -- two
    obtain ⟨a4, H4, d4, g4⟩ := append_grown (H := H3) (sz := 1) (bytes := 1) (x := v) (App.exact []) hv.news t3 (by simp [room]; omega) (by simp [maxLen]; omega)
    have t4 := g4.step.btle t3
    have e4 := g4.app
    simp only [List.nil_append] at e4
    obtain ⟨a5, H5, d5, g5⟩ := signed_spec n e4 t4 (by simp; omega)
    have t5 := g5.step.btle t4
    have e5 := g5.app.elems
    rw [← u8s_append] at e5
    obtain ⟨a6, H6, d6, e6, s6⟩ := refSigned_spec n hv t5 (by simp; omega)
    have t6 := s6.btle t5
    rw [← u8s_append] at e6
    -- three
    obtain ⟨a7, H7, d7, g7⟩ := append_grown (H := H6) (sz := 1) (bytes := 1) (x := v) (App.exact []) hv.news t6 (by simp [room]; omega) (by simp [maxLen]; omega)
    have t7 := g7.step.btle t6
    have e7 := g7.app
    simp only [List.nil_append] at e7
    obtain ⟨a8, H8, d8, g8⟩ := text_spec s (by omega) e7 t7 (by simp; omega)
    have t8 := g8.step.btle t7
    have e8 := g8.app.elems
    rw [← u8s_append, bytesGV_u8s, ← u8s_append] at e8
    obtain ⟨a9, H9, d9, e9, s9⟩ := refText_spec s (by omega) hv t8 (by simp; omega)
    have t9 := s9.btle t8
    rw [← u8s_append, bytesGV_u8s, ← u8s_append] at e9
    -- what is read
    have core : ∀ k : Int, 0 ≤ k → k ≤ 4611686018427387903 → ∃ a10 H10 a11 H11 a12 H12 id H13 H14 H15 H16, ecall T f_num_Put [.nilsl, .int .i64 k] H9 = some (a10, H10) ∧ a10.ok = true ∧ ecall T f_num_Signed [a10, .int .i64 (n.tmod 1152921504606846976)] H10 = some (a11, H11) ∧ a11.ok = true ∧
        ecall T f_num_Text [a11, .str s] H11 = some (a12, H12) ∧ a12.ok = true ∧ ecall T f_num_Read [a12] H12 = some (.ptr id 0, H13) ∧ ecall T f_num_Reader_Num [.ptr id 0, .int .i64 4611686018427387903] H13 = some (.int .i64 k, H14) ∧
        ecall T f_num_Reader_Signed [.ptr id 0] H14 = some (.int .i64 (n.tmod 1152921504606846976), H15) ∧ ecall T f_num_Reader_Text [.ptr id 0, .int .i64 200] H15 = some (.str s, H16) ∧ ecall T f_num_Reader_Done [.ptr id 0] H16 = some (.bool true, H16) := by
      intro k k0 k1
      have hp4 := putB_len k
      have hp5 := sigB_len (n.tmod 1152921504606846976)
      obtain ⟨a10, H10, d10, g10⟩ := put_spec k (H := H9) App.nil t9 (by simp)
      have t10 := g10.step.btle t9
      obtain ⟨a11, H11, d11, g11⟩ := signed_spec (n.tmod 1152921504606846976) g10.app t10 (by simp; omega)
      have t11 := g11.step.btle t10
      obtain ⟨a12, H12, d12, g12⟩ := text_spec s (by omega) g11.app t11 (by simp; omega)
      have e12 := g12.app.elems
      simp only [List.nil_append] at e12
      rw [← u8s_append, ← u8s_append, bytesGV_u8s, ← u8s_append] at e12
      have hb12 : H12.bo ≤ H12.objs.length := by
        rw [g12.step.bo, g12.step.objs, g11.step.bo, g11.step.objs, g10.step.bo, g10.step.objs, s9.bo, s9.objs, g8.step.bo, g8.step.objs, g7.step.bo, g7.step.objs, s6.bo, s6.objs, g5.step.bo, g5.step.objs, g4.step.bo, g4.step.objs, s3.bo, s3.objs, g2.step.bo, g2.step.objs, g1.step.bo, g1.step.objs]
        exact hbo
      have hisb : isB (putB k ++ sigB (n.tmod 1152921504606846976) ++ putB s.size ++ bytesI s) := isB_append (isB_append (isB_append (isB_putB _) (isB_sigB _)) (isB_putB _)) (isB_bytesI s)
      obtain ⟨H13, d13, r13, m13⟩ := read_spec e12 hisb (by simp [bytesI_length]; omega) hb12
      obtain ⟨H14, d14, r14, m14⟩ := num_spec r13 4611686018427387903
      rw [List.append_assoc, List.append_assoc, rd_num k0 k1 k1] at d14 r14
      obtain ⟨m, hm, hs⟩ := rd_sig hz.1 hz.2 (putB s.size ++ bytesI s)
      obtain ⟨H15, d15, r15, m15⟩ := rsigned_spec r14
      rw [hm] at d15 r15
      rw [hs] at d15
      obtain ⟨H16, d16, r16, m16⟩ := rtext_spec r15 200
      rw [rd_text (by omega)] at d16 r16
      have d17 := done_spec r16
      exact ⟨a10, H10, a11, H11, a12, H12, _, H13, H14, H15, H16, d10, g10.ok, d11, g11.ok, d12, g12.ok, d13, d14, d15, d16, by simpa using d17⟩
    by_cases hn : n < 0
    · obtain ⟨a10, H10, a11, H11, a12, H12, id, H13, H14, H15, H16, c1, o1, c2, o2, c3, o3, c4, c5, c6, c7, c8⟩ := core 0 (by omega) (by omega)
      simp [F_hedgerowlaw02_NumPuts, b_hedgerowlaw02_NumPuts, fixed_spec, hv.ok, hv.len, hl1, hl2, gSetAll, d1, g1.ok, d2, g2.ok, b2s_u8s e2, d3, e3.ok, b2s_u8s e3, d4, g4.ok, d5, g5.ok, b2s_u8s e5, d6, e6.ok, b2s_u8s e6, d7, g7.ok, d8, g8.ok, b2s_u8s e8, d9, e9.ok, b2s_u8s e9,
        hn, gInt_rem, c1, o1, c2, o2, c3, o3, c4, c5, c6, c7, c8]
    · obtain ⟨a10, H10, a11, H11, a12, H12, id, H13, H14, H15, H16, c1, o1, c2, o2, c3, o3, c4, c5, c6, c7, c8⟩ := core (n.tmod 4611686018427387904) (Int.tmod_nonneg _ (by omega)) (by have := (tmod_bounds n (m := 4611686018427387904) (by omega)).2; omega)
      simp [F_hedgerowlaw02_NumPuts, b_hedgerowlaw02_NumPuts, fixed_spec, hv.ok, hv.len, hl1, hl2, gSetAll, d1, g1.ok, d2, g2.ok, b2s_u8s e2, d3, e3.ok, b2s_u8s e3, d4, g4.ok, d5, g5.ok, b2s_u8s e5, d6, e6.ok, b2s_u8s e6, d7, g7.ok, d8, g8.ok, b2s_u8s e8, d9, e9.ok, b2s_u8s e9,
        hn, gInt_rem, c1, o1, c2, o2, c3, o3, c4, c5, c6, c7, c8]
  obtain ⟨⟨r, H'⟩, e1, e2⟩ := key
  simp only at e2
  subst e2
  exact ⟨H', e1⟩

end Go.Proofs.Ytiacgomjmijfcaa
