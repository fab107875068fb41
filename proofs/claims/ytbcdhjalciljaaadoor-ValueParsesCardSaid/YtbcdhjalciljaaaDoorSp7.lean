/- Own work, over the shadow machine: VSpec7. -/
import Derived.Test.YtbcdhjalciljaaaDoorSp6
set_option linter.all false
namespace Go.Proofs.YtbcdhjalciljaaaDoor
open Go.Sh
set_option maxRecDepth 100000

/-! ## Links, and what may be: the program's -/

theorem bv_an (v : BitVec 64) : (v &&& ~~~ 1#64 = 0#64) ↔ v = 0#64 ∨ v = 1#64 := by
  constructor
  · intro h
    have hb : ∀ i, 1 ≤ i → v.getLsbD i = false := by
      intro i hi
      by_cases h64 : i < 64
      · have h2 : (v &&& ~~~ 1#64).getLsbD i = (0#64).getLsbD i := by rw [h]
        have h3 : ¬ i = 0 := by omega
        rw [BitVec.getLsbD_and, BitVec.getLsbD_not, BitVec.getLsbD_one] at h2
        have e1 : (decide (i < 64) && !(decide (0 < 64) && decide (i = 0))) = true := by simp [h64, h3]
        rw [e1, Bool.and_true] at h2
        rw [h2]; simp
      · exact BitVec.getLsbD_of_ge v i (by omega)
    cases h0 : v.getLsbD 0
    · left
      apply BitVec.eq_of_getLsbD_eq
      intro i hi
      rcases Nat.eq_zero_or_pos i with rfl | hp
      · rw [h0]; rfl
      · rw [hb i hp]; simp
    · right
      apply BitVec.eq_of_getLsbD_eq
      intro i hi
      rcases Nat.eq_zero_or_pos i with rfl | hp
      · rw [h0]; rfl
      · rw [hb i hp]
        have h3 : ¬ i = 0 := by omega
        simp [BitVec.getLsbD_one, h3]
  · rintro (rfl | rfl) <;> decide

theorem andnot1 (n : Int) (h1 : -9223372036854775808 ≤ n) (h2 : n ≤ 9223372036854775807) : ∃ x, gInt .andNot .i64 n 1 = some (.int .i64 x) ∧ (x = 0 ↔ (n = 0 ∨ n = 1)) := by
  have e2 : gInt .andNot .i64 n 1 = some (.int .i64 (IntKind.i64.wrap ((BitVec.ofInt 64 n &&& ~~~ BitVec.ofInt 64 1).toNat : Int))) := rfl
  refine ⟨_, e2, ?_⟩
  have hlt := (BitVec.ofInt 64 n &&& ~~~ BitVec.ofInt 64 1).isLt
  have e : (BitVec.ofInt 64 n &&& ~~~ BitVec.ofInt 64 1) = 0#64 ↔ (n = 0 ∨ n = 1) := by
    have e1 : BitVec.ofInt 64 1 = 1#64 := by decide
    rw [e1, bv_an]
    have hn : ∀ m : Nat, m < 2 → (BitVec.ofInt 64 n = BitVec.ofNat 64 m ↔ n = m) := by
      intro m hm
      constructor
      · intro h
        have := congrArg BitVec.toNat h
        rw [BitVec.toNat_ofInt, BitVec.toNat_ofNat] at this
        omega
      · rintro rfl
        apply BitVec.eq_of_toNat_eq
        rw [BitVec.toNat_ofInt, BitVec.toNat_ofNat]
        omega
    have h3 := hn 0 (by omega)
    have h4 := hn 1 (by omega)
    rw [h3, h4]
    simp
  rw [← e]
  generalize (BitVec.ofInt 64 n &&& ~~~ BitVec.ofInt 64 1) = w at *
  rw [IntKind.wrap_i64]
  constructor
  · intro h
    apply BitVec.eq_of_toNat_eq
    simp
    omega
  · rintro rfl; decide

theorem names3 (a b c : ByteArray) (t : Tag) (ha : a.size ≤ 1000) (hb : b.size ≤ 1000) (hc : c.size ≤ 1000) (H : GH) : ecall T f_value_names [.sl 1 [.str a, .str b, .str c] t] H = some (.bool (nameL a.data.toList && nameL b.data.toList && nameL c.data.toList), H) := by
  apply optW.eq
  rw [ecall_0 T_value_names rfl (by simp [F_value_names]), wp_fin1]
  have w1 : IntKind.i64.wrap 1 = 1 := by decide
  have w2 : IntKind.i64.wrap 2 = 2 := by decide
  have w3 : IntKind.i64.wrap 3 = 3 := by decide
  have na := value_Name a (by omega) H
  have nb := value_Name b (by omega) H
  have nc := value_Name c (by omega) H
  cases xa : nameL a.data.toList <;> rw [xa] at na
  · simp [F_value_names, b_value_names, run_loop, L0_value_names, gIx, w1, w2, w3, na]
  · cases xb : nameL b.data.toList <;> rw [xb] at nb
    · simp [F_value_names, b_value_names, run_loop, L0_value_names, gIx, w1, w2, w3, na, nb]
    · cases xc : nameL c.data.toList <;> rw [xc] at nc
      · simp [F_value_names, b_value_names, run_loop, L0_value_names, gIx, w1, w2, w3, na, nb, nc]
      · simp [F_value_names, b_value_names, run_loop, L0_value_names, gIx, w1, w2, w3, na, nb, nc]

theorem split_lib (s : ByteArray) (hs : s.size ≤ 1000) (H : GH) : ∃ parts : List ByteArray, parts.map (·.data.toList) = splitL 62 s.data.toList ∧ ecall T f_strings_Split [.str s, .str ⟨#[62]⟩] H = some (.sl 1 (parts.map .str) .exact, H) := by
  refine ⟨Lib.splitB ⟨#[62]⟩ 0 (Lib.countB s ⟨#[62]⟩) s, ?_, ?_⟩
  · rw [Lib.splitB_data]
    exact split_one 62 s.data.toList
  · rw [ecall_lib T_strings_Split (by decide) (by simp [F_strings_Split])]
    have : s.size < 4294967281 ∧ 1 ≤ (⟨#[62]⟩ : ByteArray).size := ⟨by omega, by decide⟩
    simp only [libH, libP, lSplit, F_strings_Split, if_pos this]
    rfl

theorem splitL_size (c : UInt8) : ∀ (l : List UInt8) (p : List UInt8), p ∈ splitL c l → p.length ≤ l.length
  | [], p, h => by simp [splitL] at h; subst h; simp
  | b :: l, p, h => by
    have ih := splitL_size c l
    unfold splitL at h
    split at h
    · rcases List.mem_cons.1 h with rfl | h
      · simp
      · have := ih p h; simp; omega
    · split at h
      · simp at h; subst h; simp
      · rename_i q qs hq
        rcases List.mem_cons.1 h with rfl | h
        · have := ih q (by rw [hq]; simp); simp; omega
        · have := ih p (by rw [hq]; simp [h]); simp; omega

theorem value_Link (k n : Int) (s : ByteArray) (hs : s.size ≤ 1000) (H : GH) : ∃ x y z, ecall T f_value_Link [.agg [.int .i64 k, .int .i64 n, .str s]] H = some (.tup [.agg [.str x, .str y, .str z], .bool (decide (k = 5) && (decide (n = 0) && (linkL s.data.toList).isSome))], H) := by
  obtain ⟨parts, hp, hsp⟩ := split_lib s hs H
  have key : ∃ x y z, optW (ecall T f_value_Link [.agg [.int .i64 k, .int .i64 n, .str s]] H) fun r => r = (.tup [.agg [.str x, .str y, .str z], .bool (decide (k = 5) && (decide (n = 0) && (linkL s.data.toList).isSome))], H) := by
    rw [ecall_0 T_value_Link rfl (by simp [F_value_Link])]
    by_cases hk : k = 5
    · by_cases hn : n = 0
      · have hsize : ∀ p ∈ parts, p.size ≤ 1000 := by
          intro p hpm
          have h1 : p.data.toList ∈ splitL 62 s.data.toList := by rw [← hp]; exact List.mem_map_of_mem hpm
          have h2 := splitL_size 62 _ _ h1
          have e1 : p.size = p.data.toList.length := by simp
          have e2 : s.size = s.data.toList.length := by simp
          omega
        by_cases h3 : parts.length = 3
        · obtain ⟨a, b, c, rfl⟩ : ∃ a b c, parts = [a, b, c] := by
            match parts, h3 with
            | [a, b, c], _ => exact ⟨a, b, c, rfl⟩
          have hna := names3 a b c .exact (hsize a (by simp)) (hsize b (by simp)) (hsize c (by simp)) H
          simp only [List.map_cons, List.map_nil] at hp hsp
          have hlk : (linkL s.data.toList).isSome = (nameL a.data.toList && nameL b.data.toList && nameL c.data.toList) := by
            unfold linkL
            rw [← hp]
            simp only
            split <;> simp_all
          rw [hlk]
          cases hx : (nameL a.data.toList && nameL b.data.toList && nameL c.data.toList) <;> rw [hx] at hna
          · refine ⟨⟨#[]⟩, ⟨#[]⟩, ⟨#[]⟩, ?_⟩
            rw [wp_fin1]
            simp [F_value_Link, b_value_Link, hk, hn, hsp, hna, gFill, setPart]
          · refine ⟨a, c, b, ?_⟩
            rw [wp_fin1]
            simp [F_value_Link, b_value_Link, hk, hn, hsp, hna, gFill, setPart, gIx]
        · have hlk : (linkL s.data.toList).isSome = false := by
            unfold linkL
            rw [← hp]
            split
            · rename_i a b c h
              have := congrArg List.length h
              simp at this
              exact absurd this h3
            · rfl
          have h3' : ¬ ((parts.length : Int) = 3) := by omega
          refine ⟨⟨#[]⟩, ⟨#[]⟩, ⟨#[]⟩, ?_⟩
          rw [wp_fin1, hlk]
          simp [F_value_Link, b_value_Link, hk, hn, hsp, gFill, setPart, h3', h3]
      · refine ⟨⟨#[]⟩, ⟨#[]⟩, ⟨#[]⟩, ?_⟩
        rw [wp_fin1]
        simp [F_value_Link, b_value_Link, hk, hn, hsp, gFill, setPart]
    · refine ⟨⟨#[]⟩, ⟨#[]⟩, ⟨#[]⟩, ?_⟩
      rw [wp_fin1]
      simp [F_value_Link, b_value_Link, hk, hsp, gFill, setPart]
  obtain ⟨x, y, z, h⟩ := key
  exact ⟨x, y, z, optW.eq h⟩
end Go.Proofs.YtbcdhjalciljaaaDoor
