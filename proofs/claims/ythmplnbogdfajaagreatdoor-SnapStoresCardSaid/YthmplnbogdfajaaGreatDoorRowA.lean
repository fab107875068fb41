/- Own work: the shadow machine and what it shows, part RowA. -/
import Derived.Test.YthmplnbogdfajaaGreatDoorCo
import Derived.Test.YthmplnbogdfajaaGreatDoorRowC
set_option linter.all false
namespace Go.Proofs.YthmplnbogdfajaaGreatDoor
open Go.Sh Go.ChangeShapes Go.WideShapes Go.ChangeAt Go.RowKit
set_option maxRecDepth 100000
abbrev elSh : Shape := .row [.int .i64, .str, .str, .str, .str]
abbrev valSh : Shape := .row [.int .i64, .int .i64, .str]
abbrev dotSh : Shape := .row [.int .i64, .int .i64]
abbrev vecSh : Shape := .row (List.replicate 16 (.int .i64))
abbrev evSh : Shape := .row [dotSh, vecSh, .int .i64, elSh, valSh]
theorem row_cons {s : Shape} {ss : List Shape} {c : List GV} (h : Fits (.row (s :: ss)) c) : ∃ a b, c = a ++ b ∧ Fits s a ∧ Fits (.row ss) b := by
  cases h with
  | rcons _ _ a b h1 h2 => exact ⟨a, b, rfl, h1, h2⟩
theorem row_nil {c : List GV} (h : Fits (.row []) c) : c = [] := by cases h; rfl
theorem fit_int {c : List GV} (h : Fits (.int .i64) c) : ∃ n : Int, c = [.int .i64 n] ∧ -9223372036854775808 ≤ n ∧ n ≤ 9223372036854775807 := by
  cases h with
  | int _ n hn =>
    simp [IntKind.min, IntKind.max, IntKind.signed, IntKind.bits] at hn
    exact ⟨n, rfl, hn.1, hn.2⟩
theorem fit_str {c : List GV} (h : Fits .str c) : ∃ t : List UInt8, c = [.str (mkB t)] ∧ t.length ≤ 1125899906842624 := by
  cases h with
  | str s hs =>
    refine ⟨s.data.toList, by rw [mkB_eta], ?_⟩
    rw [bs_size] at hs; unfold strMost at hs; omega
theorem cells_el {c : List GV} (h : Fits elSh c) : ∃ x : El, c = elC x ∧ ElBig x ∧ ElRange x := by
  obtain ⟨a1, b1, rfl, f1, g1⟩ := row_cons h
  obtain ⟨a2, b2, rfl, f2, g2⟩ := row_cons g1
  obtain ⟨a3, b3, rfl, f3, g3⟩ := row_cons g2
  obtain ⟨a4, b4, rfl, f4, g4⟩ := row_cons g3
  obtain ⟨a5, b5, rfl, f5, g5⟩ := row_cons g4
  obtain rfl := row_nil g5
  obtain ⟨k, rfl, k1, k2⟩ := fit_int f1
  obtain ⟨a, rfl, ha⟩ := fit_str f2
  obtain ⟨b, rfl, hb⟩ := fit_str f3
  obtain ⟨c, rfl, hc⟩ := fit_str f4
  obtain ⟨d, rfl, hd⟩ := fit_str f5
  exact ⟨⟨k, a, b, c, d⟩, rfl, ⟨ha, hb, hc, hd⟩, ⟨k1, k2⟩⟩
theorem cells_val {c : List GV} (h : Fits valSh c) : ∃ (k n : Int) (t : List UInt8), c = [.int .i64 k, .int .i64 n, .str (mkB t)] ∧ (-9223372036854775808 ≤ n ∧ n ≤ 9223372036854775807) ∧ t.length ≤ 1125899906842624 := by
  obtain ⟨a1, b1, rfl, f1, g1⟩ := row_cons h
  obtain ⟨a2, b2, rfl, f2, g2⟩ := row_cons g1
  obtain ⟨a3, b3, rfl, f3, g3⟩ := row_cons g2
  obtain rfl := row_nil g3
  obtain ⟨k, rfl, k1, k2⟩ := fit_int f1
  obtain ⟨n, rfl, n1, n2⟩ := fit_int f2
  obtain ⟨t, rfl, ht⟩ := fit_str f3
  exact ⟨k, n, t, rfl, ⟨n1, n2⟩, ht⟩
theorem cells_dot {c : List GV} (h : Fits dotSh c) : ∃ r n : Int, c = [.int .i64 r, .int .i64 n] := by
  obtain ⟨a1, b1, rfl, f1, g1⟩ := row_cons h
  obtain ⟨a2, b2, rfl, f2, g2⟩ := row_cons g1
  obtain rfl := row_nil g2
  obtain ⟨k, rfl, _⟩ := fit_int f1
  obtain ⟨n, rfl, _⟩ := fit_int f2
  exact ⟨k, n, rfl⟩
theorem cells_ints : ∀ (m : Nat) {c : List GV}, Fits (.row (List.replicate m (.int .i64))) c → ∃ l : List Int, c = l.map (fun n => GV.int .i64 n) ∧ l.length = m
  | 0, c, h => ⟨[], row_nil h, rfl⟩
  | m + 1, c, h => by
    obtain ⟨a, b, rfl, f, g⟩ := row_cons h
    obtain ⟨n, rfl, _⟩ := fit_int f
    obtain ⟨l, rfl, hl⟩ := cells_ints m g
    exact ⟨n :: l, rfl, by simp [hl]⟩
theorem fits_ev {c : List GV} (h : Fits evSh c) : ∃ e : Evt, mkG evSh c = evG e ∧ EvIn e := by
  obtain ⟨a1, b1, rfl, f1, g1⟩ := row_cons h
  obtain ⟨a2, b2, rfl, f2, g2⟩ := row_cons g1
  obtain ⟨a3, b3, rfl, f3, g3⟩ := row_cons g2
  obtain ⟨a4, b4, rfl, f4, g4⟩ := row_cons g3
  obtain ⟨a5, b5, rfl, f5, g5⟩ := row_cons g4
  obtain rfl := row_nil g5
  obtain ⟨r, n, rfl⟩ := cells_dot f1
  obtain ⟨l, rfl, hl⟩ := cells_ints 16 f2
  obtain ⟨op, rfl, _⟩ := fit_int f3
  obtain ⟨x, rfl, hx, hr⟩ := cells_el f4
  obtain ⟨k, m, t, rfl, hm, ht⟩ := cells_val f5
  exact ⟨⟨r, n, l, op, x, k, m, t⟩, rfl, ⟨⟨hl, hx, ht⟩, hm.1, hm.2⟩⟩
end Go.Proofs.YthmplnbogdfajaaGreatDoor
