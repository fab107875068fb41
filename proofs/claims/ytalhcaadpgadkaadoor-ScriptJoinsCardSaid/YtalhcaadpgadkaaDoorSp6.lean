/- Own work, over the shadow machine: JSpec6. -/
import Derived.Test.YtalhcaadpgadkaaDoorSp5
set_option linter.all false
namespace Go.Proofs.YtalhcaadpgadkaaDoor
open Go.Sh
set_option maxRecDepth 100000

/-! ## ScriptChanges -/

theorem right_fit {k n : Int} {t : List UInt8} (hr : rightV k n t = true) : t.length ≤ 1000 ∧ -9223372036854775808 ≤ n ∧ n ≤ 9223372036854775807 := by
  rcases right_cases hr with ⟨rfl, rfl, rfl⟩ | ⟨rfl, rfl, rfl⟩ | ⟨rfl, rfl, rfl⟩ | ⟨rfl, h1, h2, rfl⟩ | ⟨rfl, rfl⟩ | ⟨rfl, rfl⟩ | ⟨rfl, rfl⟩
  · simp
  · simp
  · simp
  · simp; omega
  · have hp : plainL t = true := by simpa [rightV] using hr
    simp [plainL] at hp
    simp; omega
  · have hp : nameL t = true := by simpa [rightV] using hr
    have := name_len hp
    simp; omega
  · have hp : (linkL t).isSome = true := by simpa [rightV] using hr
    have := (link10 hp).2
    simp; omega

theorem elem_fit {k : Int} {a b c d : List UInt8} (h : elemV k a b c d = true) : a.length ≤ 16 ∧ b.length ≤ 16 ∧ c.length ≤ 16 ∧ d.length ≤ 16 := by
  rcases elem_kind h with rfl | rfl | rfl | rfl | rfl <;> simp [elemV] at h
  · obtain ⟨ha, rfl, rfl, rfl⟩ := h
    exact ⟨name_len ha, by simp, by simp, by simp⟩
  · obtain ⟨⟨ha, hd⟩, rfl, rfl⟩ := h
    exact ⟨name_len ha, by simp, by simp, name_len hd⟩
  · obtain ⟨⟨⟨ha, hb⟩, hc⟩, rfl⟩ := h
    exact ⟨name_len ha, name_len hb, name_len hc, by simp⟩
  · obtain ⟨⟨ha, hd⟩, rfl, rfl⟩ := h
    exact ⟨name_len ha, by simp, by simp, name_len hd⟩
  · obtain ⟨⟨⟨ha, hb⟩, hc⟩, hd⟩ := h
    exact ⟨name_len ha, name_len hb, name_len hc, name_len hd⟩

theorem okfit {x : Chg} (h : x.okB = true) : CFit x := by
  simp only [Chg.okB, Bool.and_eq_true, decide_eq_true_eq] at h
  obtain ⟨_, hel, hv, _⟩ := h
  obtain ⟨h1, h2, h3, h4⟩ := elem_fit hel
  obtain ⟨h5, h6, h7⟩ := right_fit hv
  exact ⟨by omega, by omega, by omega, by omega, h5, h6, h7⟩

theorem str_beq' {a b : ByteArray} : (a == b) = true ↔ a = b := by
  rcases a with ⟨a⟩; rcases b with ⟨b⟩
  constructor
  · intro h
    have h2 : (a == b) = true := h
    rw [beq_iff_eq.1 h2]
  · intro h
    injection h with h
    subst h
    show (a == a) = true
    exact beq_self_eq_true _

theorem chg_leaves (x : Chg) : leavesEq [.int .i64, .int .i64, .str, .str, .str, .str, .int .i64, .int .i64, .str] (chgC x) (chgC x) = some true := by
  simp [leavesEq, chgC]

/-- A change that comes from without. -/
structure CBig (x : Chg) : Prop where
  a : x.a.length ≤ 1125899906842624
  b : x.b.length ≤ 1125899906842624
  c : x.c.length ≤ 1125899906842624
  d : x.d.length ≤ 1125899906842624
  t : x.vt.length ≤ 1125899906842624
  n1 : -9223372036854775808 ≤ x.vn
  n2 : x.vn ≤ 9223372036854775807

end Go.Proofs.YtalhcaadpgadkaaDoor
