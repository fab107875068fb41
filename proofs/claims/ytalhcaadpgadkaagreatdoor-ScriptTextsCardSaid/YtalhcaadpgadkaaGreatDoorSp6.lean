/- Own work, over the shadow machine: SSpec6. -/
import Derived.Test.YtalhcaadpgadkaaGreatDoorSp5
set_option linter.all false
namespace Go.Proofs.YtalhcaadpgadkaaGreatDoor
open Go.Sh
set_option maxRecDepth 100000

/-! ## ScriptChanges -/

theorem right_fit {k n : Int} {t : List UInt8} (hr : rightV k n t = true) : t.length ≤ 1000 ∧ -9223372036854775808 ≤ n ∧ n ≤ 9223372036854775807 := by
  rcases right_cases hr with ⟨rfl, rfl, rfl⟩ | ⟨rfl, rfl, rfl⟩ | ⟨rfl, rfl, rfl⟩ | ⟨rfl, h1, h2, rfl⟩ | ⟨rfl, rfl⟩ | ⟨rfl, rfl⟩ | ⟨rfl, rfl⟩
  · simp
  · simp
  · simp
  · simp; omega
  · have hp : plainL t = true := by simpa [rightV] using hr
    simp [plainL] at hp
    simp; omega
  · have hp : nameL t = true := by simpa [rightV] using hr
    have := name_len hp
    simp; omega
  · have hp : (linkL t).isSome = true := by simpa [rightV] using hr
    have := (link10 hp).2
    simp; omega

theorem elem_fit {k : Int} {a b c d : List UInt8} (h : elemV k a b c d = true) : a.length ≤ 16 ∧ b.length ≤ 16 ∧ c.length ≤ 16 ∧ d.length ≤ 16 := by
  rcases elem_kind h with rfl | rfl | rfl | rfl | rfl <;> simp [elemV] at h
  · obtain ⟨ha, rfl, rfl, rfl⟩ := h
    exact ⟨name_len ha, by simp, by simp, by simp⟩
  · obtain ⟨⟨ha, hd⟩, rfl, rfl⟩ := h
    exact ⟨name_len ha, by simp, by simp, name_len hd⟩
  · obtain ⟨⟨⟨ha, hb⟩, hc⟩, rfl⟩ := h
    exact ⟨name_len ha, name_len hb, name_len hc, by simp⟩
  · obtain ⟨⟨ha, hd⟩, rfl, rfl⟩ := h
    exact ⟨name_len ha, by simp, by simp, name_len hd⟩
  · obtain ⟨⟨⟨ha, hb⟩, hc⟩, hd⟩ := h
    exact ⟨name_len ha, name_len hb, name_len hc, name_len hd⟩

theorem okfit {x : Chg} (h : x.okB = true) : CFit x := by
  simp only [Chg.okB, Bool.and_eq_true, decide_eq_true_eq] at h
  obtain ⟨_, hel, hv, _⟩ := h
  obtain ⟨h1, h2, h3, h4⟩ := elem_fit hel
  obtain ⟨h5, h6, h7⟩ := right_fit hv
  exact ⟨by omega, by omega, by omega, by omega, h5, h6, h7⟩

theorem str_beq' {a b : ByteArray} : (a == b) = true ↔ a = b := by
  rcases a with ⟨a⟩; rcases b with ⟨b⟩
  constructor
  · intro h
    have h2 : (a == b) = true := h
    rw [beq_iff_eq.1 h2]
  · intro h
    injection h with h
    subst h
    show (a == a) = true
    exact beq_self_eq_true _

theorem chg_leaves (x : Chg) : leavesEq [.int .i64, .int .i64, .str, .str, .str, .str, .int .i64, .int .i64, .str] (chgC x) (chgC x) = some true := by
  simp [leavesEq, chgC]

/-- A change that comes from without. -/
structure CBig (x : Chg) : Prop where
  a : x.a.length ≤ 1125899906842624
  b : x.b.length ≤ 1125899906842624
  c : x.c.length ≤ 1125899906842624
  d : x.d.length ≤ 1125899906842624
  t : x.vt.length ≤ 1125899906842624
  n1 : -9223372036854775808 ≤ x.vn
  n2 : x.vn ≤ 9223372036854775807

theorem changes_ok (x : Chg) (hx : CBig x) (s : List UInt8) (H : GH) : ecall T f_hedgerowlaw29_ScriptChanges [chgG x, .str (mkB s)] H = some (.bool true, H) := by
  obtain ⟨ba, bb, bc, bd, bt, n1, n2⟩ := hx
  have q1 : IntKind.i64.wrap ((x.a.length : Int) + x.b.length) = (x.a.length : Int) + x.b.length := wrap_i64' (by omega) (by omega)
  have q2 : IntKind.i64.wrap ((x.a.length : Int) + x.b.length + x.c.length) = (x.a.length : Int) + x.b.length + x.c.length := wrap_i64' (by omega) (by omega)
  have q3 : IntKind.i64.wrap ((x.a.length : Int) + x.b.length + x.c.length + x.d.length) = (x.a.length : Int) + x.b.length + x.c.length + x.d.length := wrap_i64' (by omega) (by omega)
  have q4 : IntKind.i64.wrap ((x.a.length : Int) + x.b.length + x.c.length + x.d.length + x.vt.length) = (x.a.length : Int) + x.b.length + x.c.length + x.d.length + x.vt.length := wrap_i64' (by omega) (by omega)
  apply optW.eq
  rw [ecall_0 T_hedgerowlaw29_ScriptChanges rfl (by simp [F_hedgerowlaw29_ScriptChanges]), wp_fin1]
  simp only [F_hedgerowlaw29_ScriptChanges, b_hedgerowlaw29_ScriptChanges]
  by_cases h300 : (300 : Int) < s.length
  · have h300' : 300 < s.length := by omega
    simp [fixed_ok, h300, h300', chgG, chgC]
  · have h300' : ¬ 300 < s.length := by omega
    by_cases hsum : (300 : Int) < (x.a.length : Int) + x.b.length + x.c.length + x.d.length + x.vt.length
    · simp [fixed_ok, h300, h300', chgG, chgC, q1, q2, q3, q4, hsum]
    · have hf : CFit x := ⟨by omega, by omega, by omega, by omega, by omega, n1, n2⟩
      have c1 := script_Change x hf H
      have c2 := ref_Change x hf H
      have rd := script_ReadChange s (by omega) H
      have lv := chg_leaves x
      have lz := chg_leaves .zero
      have fin : ∀ (d : Option Chg), readC s = d → ∀ (l : List GV) (g : Nat), True := fun _ _ _ _ => trivial
      cases hd : readC s with
      | none =>
        rw [hd] at rd
        simp only [Option.getD_none, Option.isSome_none, chgG, chgC, Chg.zero, mkB_empty] at rd lz
        cases hok : x.okB with
        | false =>
          rw [hok] at c1 c2
          simp only [chgG, chgC] at c1 c2
          simp [fixed_ok, h300, h300', chgG, chgC, q1, q2, q3, q4, hsum, c1, c2, chgTx, hok, rd, setPart, lz, gFill]
        | true =>
          rw [hok] at c1 c2
          have rx := script_ReadChange x.text (by have := (chg_text10 hok).2; omega) H
          rw [readC_text x hok] at rx
          simp only [chgG, chgC, Option.getD_some, Option.isSome_some] at c1 c2 rx lv
          simp [fixed_ok, h300, h300', chgG, chgC, q1, q2, q3, q4, hsum, c1, c2, chgTx, hok, rx, rd, setPart, lz, lv, gFill]
      | some d =>
        rw [hd] at rd
        obtain ⟨dok, dt⟩ := readC_some hd
        have c3 := ref_Change d (okfit dok) H
        rw [dok] at c3
        have ct : chgTx d = s := by simp [chgTx, dok, dt]
        rw [ct] at c3
        simp only [Option.getD_some, Option.isSome_some, chgG, chgC] at rd c3
        cases hok : x.okB with
        | false =>
          rw [hok] at c1 c2
          simp only [chgG, chgC] at c1 c2
          simp [fixed_ok, h300, h300', chgG, chgC, q1, q2, q3, q4, hsum, c1, c2, c3, chgTx, hok, rd, setPart, gFill]
        | true =>
          rw [hok] at c1 c2
          have rx := script_ReadChange x.text (by have := (chg_text10 hok).2; omega) H
          rw [readC_text x hok] at rx
          simp only [chgG, chgC, Option.getD_some, Option.isSome_some] at c1 c2 rx lv
          simp [fixed_ok, h300, h300', chgG, chgC, q1, q2, q3, q4, hsum, c1, c2, c3, chgTx, hok, rx, rd, setPart, lv, gFill]
end Go.Proofs.YtalhcaadpgadkaaGreatDoor
