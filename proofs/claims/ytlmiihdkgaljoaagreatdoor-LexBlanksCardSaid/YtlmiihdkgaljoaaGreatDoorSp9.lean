/- Own work, over the shadow machine: LSpec9. -/
import Derived.Test.YtlmiihdkgaljoaaGreatDoorSp8
set_option linter.all false
namespace Go.Proofs.YtlmiihdkgaljoaaGreatDoor
open Go.Sh
set_option maxRecDepth 100000

theorem one_ok (k n : Int) (t : List UInt8) (ht : t.length ≤ 60) (hn1 : -9223372036854775808 ≤ n) (hn2 : n ≤ 9223372036854775807) (H : GH) :
    ∃ x : ByteArray, ecall T f_lex_one [.agg [.int .i64 k, .int .i64 n, .str ⟨t.toArray⟩]] H = some (.tup [.str x, .bool (tokOk k n t)], H) ∧ (tokOk k n t = true → x.data.toList = tokText k n t) ∧ x.size ≤ 1000 := by
  have hdt : (⟨t.toArray⟩ : ByteArray).data.toList = t := by simp
  have hzt : (⟨t.toArray⟩ : ByteArray).size = t.length := ba_size t
  have hnm := value_Name ⟨t.toArray⟩ (by rw [hzt]; omega) H
  rw [hdt] at hnm
  have hcw := contains_ok wordsB .exact ⟨t.toArray⟩ (by decide) H
  have hmw : memB (⟨t.toArray⟩ : ByteArray) wordsB = decide (t ∈ wordsL) := by
    rw [Bool.eq_iff_iff, memB_iff, mem_words, hdt, decide_eq_true_eq]
  rw [hmw] at hcw
  have hcs := contains_ok signsB .exact ⟨t.toArray⟩ (by decide) H
  have hms : memB (⟨t.toArray⟩ : ByteArray) signsB = decide (t ∈ signsL) := by
    rw [Bool.eq_iff_iff, memB_iff, mem_signs, hdt, decide_eq_true_eq]
  rw [hms] at hcs
  have he0 : (⟨t.toArray⟩ : ByteArray) = ⟨#[]⟩ ↔ t = [] := by rw [← empty_iff, hdt]
  have hwo := words_ok H
  have hso := signs_ok H
  by_cases h1 : k = 1
  · subst h1
    refine ⟨⟨t.toArray⟩, ?_, fun _ => by simp [tokText], by omega⟩
    apply optW.eq
    rw [ecall_0 T_lex_one rfl (by simp [F_lex_one]), wp_fin1]
    by_cases hn : n = 0
    · cases hnv : nameL t <;> rw [hnv] at hnm
      · simp [F_lex_one, b_lex_one, hn, hnm, tokOk, hnv]
      · simp [F_lex_one, b_lex_one, hn, hnm, hwo, hcw, tokOk, hnv]
    · simp [F_lex_one, b_lex_one, hn, tokOk]
  · by_cases h2 : k = 2
    · subst h2
      refine ⟨⟨t.toArray⟩, ?_, fun _ => by simp [tokText], by omega⟩
      apply optW.eq
      rw [ecall_0 T_lex_one rfl (by simp [F_lex_one]), wp_fin1]
      by_cases hn : n = 0
      · simp [F_lex_one, b_lex_one, hn, hwo, hcw, tokOk]
      · simp [F_lex_one, b_lex_one, hn, tokOk]
    · by_cases h3 : k = 3
      · subst h3
        have hil := itoa_lib n hn1 hn2 H
        by_cases hte : t = []
        · have he := he0.2 hte
          by_cases ha : 0 ≤ n
          · by_cases hb : n ≤ 1099511627776
            · refine ⟨⟨(Lib.itoa n).toArray⟩, ?_, fun _ => by simp [tokText], by rw [ba_size]; have := itoa_len n (by omega) hb; omega⟩
              apply optW.eq
              rw [ecall_0 T_lex_one rfl (by simp [F_lex_one]), wp_fin1]
              simp only [he]
              simp [F_lex_one, b_lex_one, hil, hte, ha, hb, tokOk]
            · refine ⟨⟨(Lib.itoa n).toArray⟩, ?_, fun h => ?_, ?_⟩
              · apply optW.eq
                rw [ecall_0 T_lex_one rfl (by simp [F_lex_one]), wp_fin1]
                simp only [he]
                simp [F_lex_one, b_lex_one, hil, hte, ha, hb, tokOk]
              · simp [tokText]
              · rw [ba_size]
                have := nDigits_le 19 n.toNat (by omega) (by omega)
                unfold Lib.itoa
                rw [if_neg (by omega), Lib.decDigits_length]; omega
          · refine ⟨⟨(Lib.itoa n).toArray⟩, ?_, fun h => ?_, ?_⟩
            · apply optW.eq
              rw [ecall_0 T_lex_one rfl (by simp [F_lex_one]), wp_fin1]
              simp only [he]
              simp [F_lex_one, b_lex_one, hil, hte, ha, tokOk]
            · simp [tokText]
            · rw [ba_size]
              have := nDigits_le 19 n.natAbs (by omega) (by omega)
              unfold Lib.itoa
              rw [if_pos (by omega), List.length_cons, Lib.decDigits_length]; omega
        · have he : ¬ (⟨t.toArray⟩ : ByteArray) = ⟨#[]⟩ := fun h => hte (he0.1 h)
          refine ⟨⟨(Lib.itoa n).toArray⟩, ?_, fun h => ?_, ?_⟩
          · obtain ⟨tB, htB⟩ : ∃ tB : ByteArray, (⟨t.toArray⟩ : ByteArray) = tB := ⟨_, rfl⟩
            rw [htB] at he ⊢
            apply optW.eq
            rw [ecall_0 T_lex_one rfl (by simp [F_lex_one]), wp_fin1]
            simp [F_lex_one, b_lex_one, hil, he, hte, tokOk]
          · simp [tokText]
          · rw [ba_size]
            unfold Lib.itoa
            split
            · have := nDigits_le 19 n.natAbs (by omega) (by omega)
              rw [List.length_cons, Lib.decDigits_length]; omega
            · have := nDigits_le 19 n.toNat (by omega) (by omega)
              rw [Lib.decDigits_length]; omega
      · by_cases h4 : k = 4
        · subst h4
          have hvs := value_String 3 0 ⟨t.toArray⟩ (by omega) (by omega) (by omega) H
          have hvr := value_Right 3 0 ⟨t.toArray⟩ (by omega) (by omega) (by omega) H
          rw [hdt] at hvs hvr
          have hlen : (txtV 3 0 t).length ≤ 200 := by
            have := quo_len t
            unfold txtV
            split
            · simp [txtR]; omega
            · simp
          refine ⟨⟨(txtV 3 0 t).toArray⟩, ?_, fun _ => by simp [tokText], by rw [ba_size]; omega⟩
          apply optW.eq
          rw [ecall_0 T_lex_one rfl (by simp [F_lex_one]), wp_fin1]
          by_cases hn : n = 0
          · simp [F_lex_one, b_lex_one, hn, hvs, hvr, gFill, setPart, tokOk]
          · simp [F_lex_one, b_lex_one, hn, hvs, gFill, setPart, tokOk]
        · by_cases h5 : k = 5
          · subst h5
            refine ⟨⟨t.toArray⟩, ?_, fun _ => by simp [tokText], by omega⟩
            apply optW.eq
            rw [ecall_0 T_lex_one rfl (by simp [F_lex_one]), wp_fin1]
            by_cases hn : n = 0
            · simp [F_lex_one, b_lex_one, hn, hso, hcs, tokOk]
            · simp [F_lex_one, b_lex_one, hn, tokOk]
          · refine ⟨⟨#[]⟩, ?_, fun h => ?_, by show (0 : Nat) ≤ _; omega⟩
            · apply optW.eq
              rw [ecall_0 T_lex_one rfl (by simp [F_lex_one]), wp_fin1]
              simp [F_lex_one, b_lex_one, h1, h2, h3, h4, h5, tokOk]
            · simp [tokOk, h1, h2, h3, h4, h5] at h

theorem join_one (x : ByteArray) (tg : Tag) (hx : x.size ≤ 1000) (H : GH) : ecall T f_strings_Join [.sl 1 [.str x] tg, .str ⟨#[32]⟩] H = some (.str x, H) := by
  rw [ecall_lib T_strings_Join (by decide) (by simp [F_strings_Join])]
  have hj : Lib.join [x.data.toList] [32] = x.data.toList := by simp [Lib.join]
  have hl : x.data.toList.length ≤ 140737488355328 := by rw [← bs_size]; omega
  have hx2 : (⟨x.data.toList.toArray⟩ : ByteArray) = x := ba_ext (by simp)
  have h32 : (⟨#[32]⟩ : ByteArray).data.toList = [32] := rfl
  simp only [libH, libP, lJoin, F_strings_Join, strsOf, Option.map_some, Option.bind_some, List.map_cons, List.map_nil, h32, hj, List.length_cons, List.length_nil, hx2]
  have hc : 0 + 1 ≤ 140737488355328 ∧ x.data.toList.length ≤ 140737488355328 := ⟨by omega, hl⟩
  simp only [if_pos hc]
  rfl

theorem text1_ok (k n : Int) (t : List UInt8) (ht : t.length ≤ 60) (hn1 : -9223372036854775808 ≤ n) (hn2 : n ≤ 9223372036854775807) (H : GH) :
    ∃ x : ByteArray, ecall T f_lex_Text [.sl 3 [.agg [.int .i64 k, .int .i64 n, .str ⟨t.toArray⟩]] .exact] H = some (.tup [.str x, .bool (tokOk k n t)], H) ∧ (tokOk k n t = true → x.data.toList = tokText k n t) := by
  obtain ⟨x, hx, hxt, hxs⟩ := one_ok k n t ht hn1 hn2 H.over
  have w1 : IntKind.i64.wrap 1 = 1 := by decide
  have hix : gIx 1 (.int .i64 0) = some 0 := by decide
  cases hok : tokOk k n t <;> rw [hok] at hx hxt
  · refine ⟨⟨#[]⟩, ?_, fun h => by cases h⟩
    have hc : clean H.objs.length H.toks.length 100 (.tup [.str ⟨#[]⟩, .bool false]) = some (.tup [.str ⟨#[]⟩, .bool false]) := rfl
    apply optW.eq
    rw [ecall_1 T_lex_Text rfl (by simp [F_lex_Text]), wp_fin1]
    simp [F_lex_Text, b_lex_Text, run_loop, L0_lex_Text, hix, hx, setPart, hc]
  · refine ⟨x, ?_, hxt⟩
    have hc : clean H.objs.length H.toks.length 100 (.tup [.str x, .bool true]) = some (.tup [.str x, .bool true]) := rfl
    have hap : gAppend H.over 9 1 16 .nilsl (.sl 1 [.str x] .exact) = some (.sl 1 [.str x] (.tok H.over.toks.length 1 (some 9)), { H.over with toks := H.over.toks ++ [1] }) := by
      simp [gAppend, gNews, room, maxLen]
    have hj := join_one x (.tok H.over.toks.length 1 (some 9)) hxs { H.over with toks := H.over.toks ++ [1] }
    simp at hap hj
    apply optW.eq
    rw [ecall_1 T_lex_Text rfl (by simp [F_lex_Text]), wp_fin1]
    simp [F_lex_Text, b_lex_Text, run_loop, L0_lex_Text, hix, hx, setPart, hc, gSetAll, hap, hj, w1]
end Go.Proofs.YtlmiihdkgaljoaaGreatDoor
