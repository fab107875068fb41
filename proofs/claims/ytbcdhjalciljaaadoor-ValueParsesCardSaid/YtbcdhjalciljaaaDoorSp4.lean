/- Own work, over the shadow machine: VSpec4. -/
import Derived.Test.YtbcdhjalciljaaaDoorSp3
import Derived.Test.YtbcdhjalciljaaaDoorPu3
set_option linter.all false
namespace Go.Proofs.YtbcdhjalciljaaaDoor
open Go.Sh
set_option maxRecDepth 100000

/-! ## Names -/

theorem value_letter (c : UInt8) (H : GH) : ecall T f_value_letter [.int .u8 c.toNat] H = some (.bool (letter c), H) := by
  apply optW.eq
  rw [ecall_0 T_value_letter rfl (by simp [F_value_letter]), wp_fin1]
  unfold letter
  rcases (by omega : (c.toNat : Int) < 48 ∨ (48 ≤ (c.toNat : Int) ∧ (c.toNat : Int) ≤ 57) ∨ (58 ≤ (c.toNat : Int) ∧ (c.toNat : Int) ≤ 64) ∨ (65 ≤ (c.toNat : Int) ∧ (c.toNat : Int) ≤ 90) ∨ (91 ≤ (c.toNat : Int) ∧ (c.toNat : Int) ≤ 94) ∨ (c.toNat : Int) = 95 ∨ (c.toNat : Int) = 96 ∨ (97 ≤ (c.toNat : Int) ∧ (c.toNat : Int) ≤ 122) ∨ 123 ≤ (c.toNat : Int)) with h | h | h | h | h | h | h | h | h
  all_goals
    first | (have a0 : (97 : Int) ≤ c.toNat := by omega) | (have a0 : ¬ ((97 : Int) ≤ c.toNat) := by omega)
    first | (have a1 : (c.toNat : Int) ≤ 122 := by omega) | (have a1 : ¬ ((c.toNat : Int) ≤ 122) := by omega)
    first | (have a2 : (65 : Int) ≤ c.toNat := by omega) | (have a2 : ¬ ((65 : Int) ≤ c.toNat) := by omega)
    first | (have a3 : (c.toNat : Int) ≤ 90 := by omega) | (have a3 : ¬ ((c.toNat : Int) ≤ 90) := by omega)
    first | (have a4 : (48 : Int) ≤ c.toNat := by omega) | (have a4 : ¬ ((48 : Int) ≤ c.toNat) := by omega)
    first | (have a5 : (c.toNat : Int) ≤ 57 := by omega) | (have a5 : ¬ ((c.toNat : Int) ≤ 57) := by omega)
    first | (have a6 : (c.toNat : Int) = 95 := by omega) | (have a6 : ¬ ((c.toNat : Int) = 95) := by omega)
    simp [F_value_letter, b_value_letter, a0, a1, a2, a3]
    omega

theorem value_inner (c : UInt8) (H : GH) : ecall T f_value_inner [.int .u8 c.toNat] H = some (.bool (inner c), H) := by
  apply optW.eq
  rw [ecall_0 T_value_inner rfl (by simp [F_value_inner]), wp_fin1]
  unfold inner
  cases hl : letter c
  · rcases (by omega : (c.toNat : Int) < 48 ∨ (48 ≤ (c.toNat : Int) ∧ (c.toNat : Int) ≤ 57) ∨ (58 ≤ (c.toNat : Int) ∧ (c.toNat : Int) ≤ 64) ∨ (65 ≤ (c.toNat : Int) ∧ (c.toNat : Int) ≤ 90) ∨ (91 ≤ (c.toNat : Int) ∧ (c.toNat : Int) ≤ 94) ∨ (c.toNat : Int) = 95 ∨ (c.toNat : Int) = 96 ∨ (97 ≤ (c.toNat : Int) ∧ (c.toNat : Int) ≤ 122) ∨ 123 ≤ (c.toNat : Int)) with h | h | h | h | h | h | h | h | h
    all_goals
      first | (have a0 : (97 : Int) ≤ c.toNat := by omega) | (have a0 : ¬ ((97 : Int) ≤ c.toNat) := by omega)
      first | (have a1 : (c.toNat : Int) ≤ 122 := by omega) | (have a1 : ¬ ((c.toNat : Int) ≤ 122) := by omega)
      first | (have a2 : (65 : Int) ≤ c.toNat := by omega) | (have a2 : ¬ ((65 : Int) ≤ c.toNat) := by omega)
      first | (have a3 : (c.toNat : Int) ≤ 90 := by omega) | (have a3 : ¬ ((c.toNat : Int) ≤ 90) := by omega)
      first | (have a4 : (48 : Int) ≤ c.toNat := by omega) | (have a4 : ¬ ((48 : Int) ≤ c.toNat) := by omega)
      first | (have a5 : (c.toNat : Int) ≤ 57 := by omega) | (have a5 : ¬ ((c.toNat : Int) ≤ 57) := by omega)
      first | (have a6 : (c.toNat : Int) = 95 := by omega) | (have a6 : ¬ ((c.toNat : Int) = 95) := by omega)
      first
        | (have hv := value_letter c H; rw [h, hl] at hv; have hn : c.toNat = 95 := by omega
           simp [F_value_inner, b_value_inner, hv, h, hn]; done)
        | (simp [F_value_inner, b_value_inner, value_letter, hl, a4, a5, a6]; done)
        | (simp [F_value_inner, b_value_inner, value_letter, hl, a4, a5, a6]; omega)
  · simp [F_value_inner, b_value_inner, value_letter, hl]

theorem ix_ok {a : ByteArray} {i : Nat} (h : (i : Int) < a.size) : gIx a.size (.int .i64 i) = some i := by
  simp only [gIx]; rw [if_pos (by omega)]; simp

theorem name_loop (a : ByteArray) (ha : a.size ≤ 9223372036854775807) (cs : List UInt8) : ∀ (i : Nat) (_ : a.data.toList.drop i = cs) (l : List GV) (g : Nat) (H : GH) (K : GExit × St → Prop)
    (_ : lget l 0 = .str a) (_ : lget l 18 = .int .i64 a.size) (_ : lget l 19 = .int .i64 i)
    (_ : ∀ l', cs.all inner = false → lget l' 2 = .bool false → K (.ret, ⟨⟨l', g⟩, H⟩))
    (_ : ∀ l', cs.all inner = true → K (.exit 0, ⟨⟨l', g⟩, H⟩)),
    optW (erun T (.loop L0_value_Name) ⟨⟨l, g⟩, H⟩) K := by
  induction cs with
  | nil =>
    intro i hd l g H K h0 h18 h19 hr he
    have hlen := drop_none hd
    have hge : ¬ ((i : Int) < a.size) := by
      have : a.size = a.data.toList.length := by simp
      omega
    rw [run_loop]
    simp [L0_value_Name, h0, h18, h19, hge]
    exact he _ (by simp)
  | cons c cs ih =>
    intro i hd l g H K h0 h18 h19 hr he
    obtain ⟨hg, hi, hd'⟩ := drop_some hd
    have hsz : a.size = a.data.toList.length := by simp
    have hlt : (i : Int) < a.size := by omega
    have hix := ix_ok hlt
    have hw : IntKind.i64.wrap ((i : Int) + 1) = (i : Int) + 1 := wrap_i64' (by omega) (by omega)
    have hg' : a.data[i]? = some c := by simpa using hg
    rw [run_loop, wp_seqK]
    cases hin : inner c
    · simp [L0_value_Name, h0, h18, h19, hlt, hix, str_get, hg', value_inner, hin]
      exact hr _ (by simp [hin]) (by simp)
    · simp [L0_value_Name, h0, h18, h19, hlt, hix, str_get, hg', value_inner, hin, hw]
      refine ih (i + 1) hd' _ g H K ?_ ?_ ?_ ?_ ?_
      · simp [h0]
      · simp [h18]
      · simp
      · intro l' h1 h2; exact hr l' (by simp [hin, h1]) h2
      · intro l' h1; exact he l' (by simp [hin, h1])

theorem nil_str (a : ByteArray) : (a.data.toList = []) ↔ a.size = 0 := by
  have : a.size = a.data.toList.length := by simp
  rw [this]; exact List.length_eq_zero_iff.symm

theorem value_Name (a : ByteArray) (ha : a.size ≤ 9223372036854775807) (H : GH) : ecall T f_value_Name [.str a] H = some (.bool (nameL a.data.toList), H) := by
  apply optW.eq
  rw [ecall_0 T_value_Name rfl (by simp [F_value_Name]), wp_fin1]
  have hsz : a.size = a.data.toList.length := by simp
  unfold nameL
  cases hl : a.data.toList with
  | nil =>
    have ha0 : a = ⟨#[]⟩ := by
      rcases a with ⟨d⟩
      have : d = #[] := Array.toList_inj.1 hl
      rw [this]
    simp [F_value_Name, b_value_Name, ha0]
  | cons c cs =>
    have hcl : ¬ a = ⟨#[]⟩ := by intro h; rw [h] at hl; cases hl
    by_cases h16 : (16 : Int) < a.size
    · have : ¬ cs.length + 1 ≤ 16 := by rw [hl] at hsz; simp at hsz; omega
      simp [F_value_Name, b_value_Name, hcl, h16, this]
    · have h16' : cs.length + 1 ≤ 16 := by rw [hl] at hsz; simp at hsz; omega
      have hix : gIx a.size (.int .i64 0) = some 0 := ix_ok (i := 0) (by rw [hl] at hsz; simp at hsz; omega)
      have hg0 : a.data[0]? = some c := by
        have : a.data.toList[0]? = some c := by rw [hl]; rfl
        simpa using this
      cases hlet : letter c
      · simp [F_value_Name, b_value_Name, hcl, h16, hix, str_get, hg0, value_letter, hlet]
      · simp [F_value_Name, b_value_Name, hcl, h16, hix, str_get, hg0, value_letter, hlet]
        rw [wp_seqK, wp_blockK]
        refine name_loop a ha (c :: cs) 0 (by simp [hl]) _ _ _ _ ?_ ?_ ?_ ?_ ?_
        · simp
        · simp
        · simp
        · intro l' h1 h2
          simp [h2]
          intro _; simpa using h1
        · intro l' h1
          simp
          exact ⟨by omega, by simpa using h1⟩
end Go.Proofs.YtbcdhjalciljaaaDoor
