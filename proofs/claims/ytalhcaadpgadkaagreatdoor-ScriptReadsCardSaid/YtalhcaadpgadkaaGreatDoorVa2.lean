/- Own work, over the shadow machine: SVal2. -/
import Derived.Test.YtalhcaadpgadkaaGreatDoorVa1
set_option linter.all false
namespace Go.Proofs.YtalhcaadpgadkaaGreatDoor
open Go.Sh
set_option maxRecDepth 100000
theorem splitL_ne (c : UInt8) (l : List UInt8) : ∃ p ps, splitL c l = p :: ps := by
  cases l with
  | nil => exact ⟨_, _, rfl⟩
  | cons b l =>
    unfold splitL
    split
    · exact ⟨_, _, rfl⟩
    · split <;> exact ⟨_, _, rfl⟩

theorem ref_Split (s : ByteArray) (hs : s.size ≤ 1000) (H : GH) (hb : H.bo ≤ H.objs.length) : ∃ (id : Nat) (parts : List ByteArray) (H' : GH), parts.map (fun b : ByteArray => b.data.toList) = splitL 62 s.data.toList ∧ H'.objs[id]? = some (.row 9 (parts.map .str)) ∧
    ecall T f_hedgerowref01_Split [.str s, .int .u8 62] H = some (.hsl id 0 parts.length 1 false, H') := by
  have key : optW (ecall T f_hedgerowref01_Split [.str s, .int .u8 62] H) fun r => ∃ (id : Nat) (parts : List ByteArray) (H' : GH), parts.map (fun b : ByteArray => b.data.toList) = splitL 62 s.data.toList ∧ H'.objs[id]? = some (.row 9 (parts.map .str)) ∧ r = (.hsl id 0 parts.length 1 false, H') := by
    rw [ecall_0 T_hedgerowref01_Split rfl (by simp [F_hedgerowref01_Split]), wp_fin1]
    simp only [F_hedgerowref01_Split, b_hedgerowref01_Split]
    simp [gSetAll]
    rw [wp_seqK, wp_blockK]
    refine rsplit_loop s hs s.data.toList 0 (by simp) _ _ _ _ H.objs.length [] ⟨#[]⟩ ?_ ?_ ?_ ?_ ?_ ?_ ?_ ?_ ?_ ?_
    · simp
    · simp
    · simp
    · simp
    · simp [GH.newObj]
    · exact hb
    · simp [GH.newObj]; omega
    · have : (⟨#[]⟩ : ByteArray).size = 0 := rfl
      simp [this]
    · simp
    · intro l' H' id' parts p ps e1 e2 e3 e4
      simp [e3]
      refine ⟨id', parts, ?_, e4, rfl, rfl⟩
      rw [e1]; simpa using e2
  obtain ⟨v, h, id, parts, H', h1, h2, h3⟩ := key
  exact ⟨id, parts, H', h1, h2, by rw [h, h3]⟩

theorem splitL_sum (c : UInt8) : ∀ l : List UInt8, ((splitL c l).map List.length).sum + (splitL c l).length = l.length + 1
  | [] => rfl
  | b :: l => by
    have ih := splitL_sum c l
    obtain ⟨p, ps, h⟩ := splitL_ne c l
    unfold splitL
    rw [h] at ih ⊢
    simp only [List.map_cons, List.sum_cons, List.length_cons] at ih
    split
    · simp; omega
    · simp; omega

theorem link_short (l : List UInt8) (h : 60 < l.length) : (linkL l).isSome = false := by
  unfold linkL
  have hs := splitL_sum 62 l
  split
  · rename_i a b c hl
    rw [hl] at hs
    simp only [List.map_cons, List.map_nil, List.sum_cons, List.sum_nil, List.length_cons, List.length_nil] at hs
    split
    · rename_i hn
      exfalso
      simp only [nameL, Bool.and_eq_true, decide_eq_true_eq] at hn
      omega
    · rfl
  · rfl

theorem clean_lk (a b : Nat) (x y z : ByteArray) (c : Bool) : clean a b 100 (.tup [.agg [.str x, .str y, .str z], .bool c]) = some (.tup [.agg [.str x, .str y, .str z], .bool c]) := rfl

theorem ref_Link (s : ByteArray) (H : GH) : ∃ x y z, ecall T f_hedgerowref01_Link [.str s] H = some (.tup [.agg [.str x, .str y, .str z], .bool (linkL s.data.toList).isSome], H) := by
  have hsz : s.size = s.data.toList.length := by simp
  have key : ∃ x y z, optW (ecall T f_hedgerowref01_Link [.str s] H) fun r => r = (.tup [.agg [.str x, .str y, .str z], .bool (linkL s.data.toList).isSome], H) := by
    rw [ecall_1 T_hedgerowref01_Link rfl (by simp [F_hedgerowref01_Link])]
    by_cases h60 : (60 : Int) < s.size
    · refine ⟨⟨#[]⟩, ⟨#[]⟩, ⟨#[]⟩, ?_⟩
      have h60' : 60 < s.size := by omega
      rw [wp_fin1, link_short _ (by omega)]
      simp [F_hedgerowref01_Link, b_hedgerowref01_Link, h60, h60', gFill, setPart, clean_lk]
    · have h60' : ¬ 60 < s.size := by omega
      obtain ⟨id, parts, H', hp, hob, hsp⟩ := ref_Split s (by omega) H.over (by simp [GH.over])
      by_cases h3 : parts.length = 3
      · obtain ⟨a, b, c, rfl⟩ : ∃ a b c, parts = [a, b, c] := by
          match parts, h3 with
          | [a, b, c], _ => exact ⟨a, b, c, rfl⟩
        simp only [List.map_cons, List.map_nil, List.length_cons, List.length_nil] at hp hsp hob
        have hsum := splitL_sum 62 s.data.toList
        rw [← hp] at hsum
        simp only [List.map_cons, List.map_nil, List.sum_cons, List.sum_nil, List.length_cons, List.length_nil] at hsum
        have hlen : ∀ b : ByteArray, b.size = b.data.toList.length := fun b => by simp
        have ha := hlen a; have hb := hlen b; have hc := hlen c
        have hlk : (linkL s.data.toList).isSome = (nameL a.data.toList && nameL b.data.toList && nameL c.data.toList) := by
          unfold linkL
          rw [← hp]
          simp only
          cases hh : (nameL a.data.toList && nameL b.data.toList && nameL c.data.toList) <;> simp only [if_true, if_false, Bool.false_eq_true] <;> rfl
        have na := ref_Name a (by omega) H'
        have nb := ref_Name b (by omega) H'
        have nc := ref_Name c (by omega) H'
        rw [hlk]
        have e1 : (0 + 1 + 1 + 1 : Nat) = 3 := rfl
        rw [e1] at hsp
        cases xa : nameL a.data.toList <;> rw [xa] at na
        · refine ⟨⟨#[]⟩, ⟨#[]⟩, ⟨#[]⟩, ?_⟩
          rw [wp_fin1]
          simp [F_hedgerowref01_Link, b_hedgerowref01_Link, h60, h60', hsp, hob, gIx, na, gFill, setPart, clean_lk]
        · cases xb : nameL b.data.toList <;> rw [xb] at nb
          · refine ⟨⟨#[]⟩, ⟨#[]⟩, ⟨#[]⟩, ?_⟩
            rw [wp_fin1]
            simp [F_hedgerowref01_Link, b_hedgerowref01_Link, h60, h60', hsp, hob, gIx, na, nb, gFill, setPart, clean_lk]
          · cases xc : nameL c.data.toList <;> rw [xc] at nc
            · refine ⟨⟨#[]⟩, ⟨#[]⟩, ⟨#[]⟩, ?_⟩
              rw [wp_fin1]
              simp [F_hedgerowref01_Link, b_hedgerowref01_Link, h60, h60', hsp, hob, gIx, na, nb, nc, gFill, setPart, clean_lk]
            · refine ⟨a, c, b, ?_⟩
              rw [wp_fin1]
              simp [F_hedgerowref01_Link, b_hedgerowref01_Link, h60, h60', hsp, hob, gIx, na, nb, nc, gFill, setPart, clean_lk]
      · have hlk : (linkL s.data.toList).isSome = false := by
          unfold linkL
          rw [← hp]
          split
          · rename_i a b c h
            have := congrArg List.length h
            simp at this
            exact absurd this h3
          · rfl
        have h3' : ¬ ((parts.length : Int) = 3) := by omega
        refine ⟨⟨#[]⟩, ⟨#[]⟩, ⟨#[]⟩, ?_⟩
        rw [wp_fin1, hlk]
        simp [F_hedgerowref01_Link, b_hedgerowref01_Link, h60, h60', hsp, gFill, setPart, h3', h3, clean_lk]
  obtain ⟨x, y, z, h⟩ := key
  exact ⟨x, y, z, optW.eq h⟩

theorem ref_Right (k n : Int) (s : ByteArray) (hs : s.size ≤ 9223372036854775807) (H : GH) :
    ecall T f_hedgerowref01_Right [.agg [.int .i64 k, .int .i64 n, .str s]] H = some (.bool (rightV k n s.data.toList), H) := by
  apply optW.eq
  rw [ecall_0 T_hedgerowref01_Right rfl (by simp [F_hedgerowref01_Right]), wp_fin1]
  unfold rightV
  simp only [empty_iff]
  by_cases h0 : k = 0
  · subst h0
    by_cases hn : n = 0 <;> simp [F_hedgerowref01_Right, b_hedgerowref01_Right, hn]
  · by_cases h1 : k = 1
    · subst h1
      by_cases hn : n = 0
      · simp [F_hedgerowref01_Right, b_hedgerowref01_Right, hn]
      · by_cases hn1 : n = 1 <;> simp [F_hedgerowref01_Right, b_hedgerowref01_Right, hn, hn1]
    · by_cases h2 : k = 2
      · subst h2
        by_cases ha : -1099511627776 ≤ n
        · by_cases hb : n ≤ 1099511627776 <;> simp [F_hedgerowref01_Right, b_hedgerowref01_Right, ha, hb]
        · simp [F_hedgerowref01_Right, b_hedgerowref01_Right, ha]
      · by_cases h3 : k = 3
        · subst h3
          by_cases hn : n = 0 <;> simp [F_hedgerowref01_Right, b_hedgerowref01_Right, hn, ref_plain s hs]
        · by_cases h4 : k = 4
          · subst h4
            by_cases hn : n = 0 <;> simp [F_hedgerowref01_Right, b_hedgerowref01_Right, hn, ref_Name s hs]
          · by_cases h5 : k = 5
            · subst h5
              obtain ⟨x, y, z, hl⟩ := ref_Link s H
              by_cases hn : n = 0 <;> simp [F_hedgerowref01_Right, b_hedgerowref01_Right, hn, hl, setPart]
            · simp [F_hedgerowref01_Right, b_hedgerowref01_Right, h0, h1, h2, h3, h4, h5]

end Go.Proofs.YtalhcaadpgadkaaGreatDoor
