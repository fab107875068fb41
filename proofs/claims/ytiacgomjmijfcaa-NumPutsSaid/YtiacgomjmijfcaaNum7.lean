/- Own work, over the shadow machine: NumSpec6. -/
import Derived.Test.YtiacgomjmijfcaaNum6
set_option linter.all false
namespace Go.Proofs.Ytiacgomjmijfcaa
open Go.Sh
set_option maxRecDepth 100000

theorem fixed_spec (H : GH) : ecall T f_hedgerowlaw02_fixed [] H = some (.bool true, H) := ecall_iff.2 ⟨200, by kernel_rfl⟩

@[simp] theorem txt_size (l : List Int) : (txt l).size = l.length := by
  show (l.map byte).toArray.size = _
  simp

theorem txt_extract (l : List Int) (k : Nat) : (txt l).extract 0 k = txt (l.take k) := by
  have h : ((txt l).extract 0 k).data = (txt (l.take k)).data := by
    rw [ByteArray.data_extract]
    simp [txt, List.map_take]
  cases h1 : (txt l).extract 0 k
  cases h2 : txt (l.take k)
  rw [h1, h2] at h
  simp only at h
  rw [h]

theorem hiB_mono {a b : Int} (h : a ≤ b) : (hiB a).length ≤ (hiB b).length := by
  fun_induction hiB a generalizing b with
  | case1 a ha => simp
  | case2 a ha ih =>
    have e : hiB b = (b % 128 + 128) :: hiB (b / 128) := by rw [hiB, if_neg (by omega)]
    rw [e]
    simp only [List.length_cons]
    have := ih (b := b / 128) (by omega)
    omega

theorem numB_mono {a b : Int} (h : a ≤ b) : (numB a).length ≤ (numB b).length := by
  have := hiB_mono h
  simp [numB, this]

theorem numB_prefix {a b : Int} (ha : 0 ≤ a) (hab : a ≤ b) (hb : b ≤ 4611686018427387903) : (numB b).take (numB a).length = numB a ↔ a = b := by
  constructor
  · intro h
    have h1 := take_numB (k := b) (by omega) hb []
    rw [List.append_nil] at h1
    have h2 : numB b = numB a ++ (numB b).drop (numB a).length := by
      have := List.take_append_drop (numB a).length (numB b)
      rw [h] at this; exact this.symm
    rw [h2, take_numB ha (by omega)] at h1
    injection h1
  · rintro rfl; simp

theorem sizes_law (a b : Int) (H : GH) (hbt : H.bt ≤ H.toks.length) : ∃ H', ecall T f_hedgerowlaw02_NumSizes [.int .i64 a, .int .i64 b] H = some (.bool true, H') := by
  have key : optW (ecall T f_hedgerowlaw02_NumSizes [.int .i64 a, .int .i64 b] H) fun r => r.1 = .bool true := by
    rw [ecall_0 T_hedgerowlaw02_NumSizes rfl (by simp [F_hedgerowlaw02_NumSizes]), wp_fin1]
    by_cases h1 : a < 0
    · simp [F_hedgerowlaw02_NumSizes, b_hedgerowlaw02_NumSizes, fixed_spec, h1]
    by_cases h2 : b < a
    · simp [F_hedgerowlaw02_NumSizes, b_hedgerowlaw02_NumSizes, fixed_spec, h1, h2]
    by_cases h3 : 4611686018427387904 ≤ b
    · simp [F_hedgerowlaw02_NumSizes, b_hedgerowlaw02_NumSizes, fixed_spec, h1, h2, h3]
    obtain ⟨s1, H1, c1, g1⟩ := put_spec a (H := H) App.nil hbt (by simp)
    obtain ⟨s2, H2, c2, g2⟩ := put_spec b (H := H1) App.nil (g1.step.btle hbt) (by simp)
    have e1 := g1.app.elems
    have e2 := g2.app.elems
    simp only [List.nil_append] at e1 e2
    have pa : putB a = numB a := by rw [putB, if_neg (by omega)]
    have pb : putB b = numB b := by rw [putB, if_neg (by omega)]
    rw [pa] at e1
    rw [pb] at e2
    have l1 : ¬ ((numB b).length : Int) < (numB a).length := by have := numB_mono (a := a) (b := b) (by omega); omega
    have l2 : ¬ (9 : Int) < (numB b).length := by have := numB_len (k := b) (by omega); omega
    have l3 : ¬ ((numB a).length : Int) < 1 := by have := numB_pos a; omega
    have hb : gBounds (numB b).length false true false [.int .i64 (numB a).length] = some (0, (numB a).length, none) := by
      simp only [gBounds, gBound]
      rw [if_pos (by omega)]; simp
    have isa : isB (numB a) := by rw [← pa]; exact isB_putB a
    have isb : isB (numB b) := by rw [← pb]; exact isB_putB b
    have heq : txt ((numB b).take (numB a).length) = txt (numB a) ↔ a = b := by
      rw [txt_inj (isB_take isb _) isa]
      exact numB_prefix (by omega) (by omega) (by omega)
    simp [F_hedgerowlaw02_NumSizes, b_hedgerowlaw02_NumSizes, fixed_spec, h1, h2, h3, c1, c2, g1.ok, g2.ok, b2s_u8s e1, b2s_u8s e2, l1, l2, l3, hb, txt_extract, heq]
  obtain ⟨⟨r, H'⟩, e1, e2⟩ := key
  simp only at e2
  subst e2
  exact ⟨H', e1⟩

end Go.Proofs.Ytiacgomjmijfcaa
