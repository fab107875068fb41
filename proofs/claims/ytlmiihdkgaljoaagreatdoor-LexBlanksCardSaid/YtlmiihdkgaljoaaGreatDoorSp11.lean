/- Own work, over the shadow machine: LSpec11. -/
import Derived.Test.YtlmiihdkgaljoaaGreatDoorSp10
set_option linter.all false
namespace Go.Proofs.YtlmiihdkgaljoaaGreatDoor
open Go.Sh
set_option maxRecDepth 100000

theorem blanks_ok (L : List Tk) (u : GV) (hu : Elems 3 u (L.map tkG)) (hbd : ∀ v ∈ L, -9223372036854775808 ≤ v.2.1 ∧ v.2.1 ≤ 9223372036854775807 ∧ v.2.2.length ≤ 9223372036854775807) (hLl : L.length ≤ 9223372036854775807)
    (Bs : List Int) (bv : GV) (hbv : Elems 1 bv (Bs.map u8i)) (hB : ∀ x ∈ Bs, 0 ≤ x ∧ x ≤ 255) (hBl : Bs.length ≤ 9223372036854775807) (H : GH) : ecall T f_hedgerowlaw18_LexBlanks [u, bv] H = some (.bool true, H) := by
  have hlu : ∀ (call : Nat → List GV → GH → Option (GV × GH)) (l : List GV) (g : Nat) (H : GH), geff call .lensl [u] ⟨l, g⟩ H = some ⟨.int .i64 L.length, none, H, g⟩ := by
    intro call l g H
    have := hu.len call l g H
    simpa using this
  have huu : ∀ t, unbox t u = u := Elems.unbox hu
  have hub : ∀ t, unbox t bv = bv := Elems.unbox hbv
  have huo : u.ok = true := hu.ok
  have fin : ∀ (w : ByteArray) (bl : List (Nat × Tk)), w.data.toList = wideL bl → bl.map (·.2) = L → (∀ b ∈ bl, 1 ≤ b.1 ∧ tkOk b.2 = true ∧ b.2.2.2.length ≤ 200) → L.length ≤ 30 → w.size ≤ 1900 →
      gStr .add w (⟨#[32, 32]⟩ : ByteArray) = some (.str (w ++ (⟨#[32, 32]⟩ : ByteArray))) ∧ ∃ v, v.ok = true ∧ (∀ t, unbox t v = v) ∧ ecall T f_lex_Tokens [.str (w ++ (⟨#[32, 32]⟩ : ByteArray))] H = some (.tup [v, .int .i64 0], H) ∧ ecall T f_hedgerowlaw18_same [u, v] H = some (.bool true, H) := by
    intro w bl hw hbl hblo hL hwz
    refine ⟨add_ok (by show _ + (2 : Nat) ≤ _; omega), ?_⟩
    have hz2 : (w ++ (⟨#[32, 32]⟩ : ByteArray)).size = w.size + 2 := by rw [ByteArray.size_append]; rfl
    have hll : bl.length ≤ 30 := by
      have := congrArg List.length hbl
      simp at this; omega
    obtain ⟨v, hv, ht⟩ := tokens_blocks (w ++ (⟨#[32, 32]⟩ : ByteArray)) (by omega) 2 (by omega) bl hblo (by omega) (by rw [ByteArray.data_append, Array.toList_append, hw]; rfl) H
    rw [hbl] at hv
    exact ⟨v, hv.ok, Elems.unbox hv, ht, same_ok L (by omega) u v hu hv H⟩
  apply optW.eq
  rw [ecall_0 T_hedgerowlaw18_LexBlanks rfl (by simp [F_hedgerowlaw18_LexBlanks]), wp_fin1]
  simp only [F_hedgerowlaw18_LexBlanks, b_hedgerowlaw18_LexBlanks]
  by_cases h30 : (30 : Int) < L.length
  · have h30' : 30 < L.length := by omega
    simp [fixed_ok, huu, hlu, h30, h30']
  · have h30' : ¬ 30 < L.length := by omega
    by_cases hL0 : L = []
    · subst hL0
      obtain ⟨ha, v, hvo, hvu, ht, hs⟩ := fin ⟨#[]⟩ [] rfl rfl (by simp) (by simp) (by show (0 : Nat) ≤ _; omega)
      have hz : (⟨#[]⟩ : ByteArray).size = 0 := rfl
      simp only [List.length_nil] at hlu
      simp [fixed_ok, huu, hlu, run_loop, L1_hedgerowlaw18_LexBlanks, hz, ha, ht, hs, hvo, hvu, huo]
    · have hn : ∃ x, (L.map tkG)[0]? = some x := by
        cases L with
        | nil => exact absurd rfl hL0
        | cons a L => exact ⟨_, rfl⟩
      obtain ⟨x, hx⟩ := hn
      obtain ⟨ta, hta⟩ := hu.is_sl hx
      simp [fixed_ok, huu, hlu, h30, h30']
      rw [wp_seqK, wp_blockK]
      refine blanks_loop L ta (by omega) hbd Bs bv hbv hB hBl u L 0 rfl _ _ H _ ⟨#[]⟩ [] ?_ ?_ ?_ ?_ ?_ ?_ rfl (by simp) (by simp) (Nat.le_refl _) (by omega) ?_ ?_
      · simp
      · simp
      · simp
      · simp [hta]
      · simp
      · simp
      · intro l' g' e4
        simp [e4]
      · intro l' g' w bl e0 e5 hw hbl hblo hwz
        by_cases h19 : (1900 : Int) < w.size
        · have h19' : 1900 < w.size := by omega
          simp [e5, h19, h19']
        · have h19' : ¬ 1900 < w.size := by omega
          obtain ⟨ha, v, hvo, hvu, ht, hs⟩ := fin w bl hw hbl hblo (by omega) (by omega)
          simp [e0, e5, h19, h19', ha, ht, hs, hvo, hvu, huo, huu]
end Go.Proofs.YtlmiihdkgaljoaaGreatDoor
