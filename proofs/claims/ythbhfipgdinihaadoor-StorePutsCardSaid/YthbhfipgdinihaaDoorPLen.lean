/- Own work: the shadow machine and what it shows, part PLen. -/
import Derived.Test.YthbhfipgdinihaaDoorProg
import Derived.Tactics
import Derived.Tactics2
import Derived.StillTactics
import Derived.WalkKit
import Derived.WalkSpells
import Derived.LoopTactic
import Derived.LoopN
import Derived.Laws.IdiomRangeMap
import Derived.Maps.RangeRun
import Derived.Test.YthbhfipgdinihaaDoorPShG
set_option linter.all false

namespace Go.Proofs.YthbhfipgdinihaaDoor
open Go.RowKit Go.Sh
open Go.ChangeMaps (setBlock)

def seenLen : List MapEntry → Array Nat → Int
  | [], _ => 0
  | x :: l, seen => (if seen.contains x.born then lenOf x.val else 0) + seenLen l seen

theorem seenLen_le : ∀ (es : List MapEntry) (seen : Array Nat), 0 ≤ seenLen es seen ∧ seenLen es seen ≤ (es.map fun e => lenOf e.val).sum
  | [], _ => ⟨Int.le_refl _, Int.le_refl _⟩
  | x :: l, seen => by
    have ih := seenLen_le l seen
    have := lenOf_nonneg x.val
    simp only [seenLen, List.map_cons, List.sum_cons]
    split <;> omega

theorem seenLen_other (seen : Array Nat) (b : Nat) : ∀ (es : List MapEntry), b ∉ es.map (·.born) → seenLen es (seen.push b) = seenLen es seen
  | [], _ => rfl
  | x :: l, h => by
    have hx : (x.born == b) = false := by
      cases hc : x.born == b with
      | false => rfl
      | true => exact absurd (List.mem_cons.2 (Or.inl (beq_iff_eq.1 hc).symm)) h
    have ih := seenLen_other seen b l (fun e => h (List.mem_cons.2 (Or.inr e)))
    simp only [seenLen, contains_push, hx, Bool.or_false, ih]

theorem seenLen_push (seen : Array Nat) (e : MapEntry) (hs : seen.contains e.born = false) : ∀ (es : List MapEntry), (es.map (·.born)).Nodup → e ∈ es → seenLen es (seen.push e.born) = seenLen es seen + lenOf e.val
  | x :: l, hn, he => by
    have hn' : x.born ∉ l.map (·.born) ∧ (l.map (·.born)).Nodup := List.nodup_cons.1 hn
    rcases List.mem_cons.1 he with rfl | h
    · simp only [seenLen, contains_push, hs, beq_self_eq_true, Bool.or_true, if_true, Bool.false_eq_true, if_false, seenLen_other seen e.born l hn'.1]
      omega
    · have hx : (x.born == e.born) = false := by
        cases hc : x.born == e.born with
        | false => rfl
        | true => exact absurd (by rw [beq_iff_eq.1 hc]; exact List.mem_map.2 ⟨e, h, rfl⟩) hn'.1
      simp only [seenLen, contains_push, hx, Bool.or_false, seenLen_push seen e hs l hn'.2 h]
      omega

theorem seenLen_full (seen : Array Nat) : ∀ (es : List MapEntry), (∀ x ∈ es, seen.contains x.born = true) → seenLen es seen = (es.map fun e => lenOf e.val).sum
  | [], _ => rfl
  | x :: l, h => by
    simp only [seenLen, h x (List.mem_cons.2 (Or.inl rfl)), if_true, List.map_cons, List.sum_cons, seenLen_full seen l (fun y hy => h y (List.mem_cons.2 (Or.inr hy)))]

theorem seenLen_none : ∀ (es : List MapEntry), seenLen es #[] = 0
  | [] => rfl
  | x :: l => by
    have : (#[] : Array Nat).contains x.born = false := by simp
    simp only [seenLen, this, Bool.false_eq_true, if_false, seenLen_none l]
    rfl

theorem wgrow_iter {w wr : World} {bm clock c0 : Nat} {seen seen' : Array Nat} {w1 : World} (hg : WGrow w wr) (hs : wr.heap.size = w.heap.size + 1) (h1 : w1 = wr ∨ w1 = wr.drew) (o : Obj) :
    WGrow w (setBlock w1 w.heap.size o) ∧ (setBlock w1 w.heap.size o).heap[w.heap.size]? = some o ∧ (setBlock w1 w.heap.size o).heap.size = w.heap.size + 1 := by
  have hh : w1.heap = wr.heap := by rcases h1 with rfl | rfl <;> rfl
  have e1 : w1.tape = wr.tape := by rcases h1 with rfl | rfl <;> rfl
  have e2 : w1.os = wr.os := by rcases h1 with rfl | rfl <;> rfl
  have e3 : w1.output = wr.output := by rcases h1 with rfl | rfl <;> rfl
  have hsz : (setBlock w1 w.heap.size o).heap.size = w.heap.size + 1 := by simp [setBlock, hh, hs]
  refine ⟨⟨by rw [hsz]; omega, e1.trans hg.tape, e2.trans hg.os, e3.trans hg.output, fun b hb => ?_⟩, ?_, hsz⟩
  · rw [← hg.old b hb, ← hh]
    simp [setBlock, Array.getElem?_setIfInBounds, show ¬ w.heap.size = b by omega]
  · have : w.heap.size < w1.heap.size := by rw [hh, hs]; omega
    simp [setBlock, this]

set_option maxRecDepth 1000000 in
set_option maxHeartbeats 2000000 in
theorem len_walk (b bm : Nat) (es : Array MapEntry) (clock : Nat) (w : World) (h0 : w.cell? ⟨b, 0, none⟩ = some (.map (some bm))) (hb : w.heap[bm]? = some (.map es clock)) (hst1 : ∀ x ∈ es.toList, x.born < clock) (hst2 : (es.toList.map (·.born)).Nodup)
    (hv : ∀ x ∈ es.toList, ∃ base n c, x.val = .slice base n c) (hsum : (es.toList.map fun e => lenOf e.val).sum ≤ 4611686018427387904) :
    Calls Tryd.prog 39 #[.pointer (some ⟨b, 0, none⟩)] w fun e w' => e = .returned (.int .i64 ((es.toList.map fun e => lenOf e.val).sum)) ∧ WGrow w w' := by
  have hrg := run_range_map (P := Tryd.prog) w 43 _ _ bm es clock Tryd.underlying43 hb
  have hbm : bm < w.heap.size := (Array.getElem?_eq_some_iff.1 hb).1
  go_enter Tryd.func39, Tryd.ntmps39
  go_wp2
  go_loopw [3] (fun s w' => ∃ (seen : Array Nat) (c0 : Nat), (WGrow w w' ∧ w'.heap.size = w.heap.size + 1) ∧ (w'.heap[w.heap.size]? = some (.mapIter (some bm) clock seen c0) ∧ clock ≤ c0) ∧ s = .int .i64 (seenLen es.toList seen)) (fun _ w' => (leftOf es (w'.iterSeen w.heap.size)).size)
  case atStart =>
    refine ⟨#[], clock, ⟨⟨by simp, rfl, rfl, rfl, fun b hb => heap_alloc_old w _ hb⟩, by simp⟩, ⟨heap_alloc_new w _, Nat.le_refl _⟩, by rw [seenLen_none]⟩
  case round =>
    obtain ⟨seen, c0, ⟨hg, hsz⟩, ⟨hit, hcc⟩, rfl⟩ := hrel
    rename_i wr _
    have hb1 := (hg.old bm hbm).trans hb
    have law := run_next_at (P := Tryd.prog) _ 0 w.heap.size bm clock c0 seen es clock hit hb1 hst1 hcc
    rcases law with ⟨h0', hrun⟩ | ⟨e, he, w2, hal2, hrun⟩
    · have hnx : ∀ ty, (Instr.next (.pointer (some ⟨w.heap.size, 0, none⟩)) false ty).run Tryd.prog _ = _ := fun _ => hrun
      go_wp2
      go_ret
      rw [seenLen_full seen es.toList (all_seen es seen h0')]
      exact ⟨rfl, hg⟩
    · obtain ⟨base, n, c, hval⟩ := hv e (mem_left he).1
      rw [hval] at hrun
      have hnx : ∀ ty, (Instr.next (.pointer (some ⟨w.heap.size, 0, none⟩)) false ty).run Tryd.prog _ = _ := fun _ => hrun
      obtain ⟨g1, g2, g3⟩ := wgrow_iter (bm := bm) (clock := clock) (c0 := c0) (seen := seen) (seen' := seen) hg hsz hal2 (.mapIter (some bm) clock (seen.push e.born) clock)
      have hen := run_entry_at (P := Tryd.prog) _ w.heap.size bm clock seen es clock e g2 ((g1.old bm hbm).trans hb) (mem_left he).1 hst2
      rw [hval] at hen
      go_wp2
      go_roundw
      case rel =>
        refine ⟨seen.push e.born, clock, ⟨g1, g3⟩, ⟨g2, Nat.le_refl _⟩, ?_⟩
        have hp := seenLen_push seen e (mem_left he).2 es.toList hst2 (mem_left he).1
        have hle := seenLen_le es.toList (seen.push e.born)
        have hle0 := seenLen_le es.toList seen
        have hl : lenOf e.val = n := by rw [hval]; rfl
        rw [hl] at hp
        rw [hp] at hle ⊢
        congr 1
        unfold wrap64
        omega
      case measure =>
        have m1 : World.iterSeen (setBlock w2 w.heap.size (.mapIter (some bm) clock (seen.push e.born) clock)) w.heap.size = seen.push e.born := by simp [World.iterSeen, g2]
        have m2 := hit
        rw [m1]
        simp only [World.iterSeen, m2]
        exact left_shrinks es seen e he
end Go.Proofs.YthbhfipgdinihaaDoor
