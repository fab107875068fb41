/- Own work: the shadow machine and what it shows, part B. -/
import Derived.Test.YtlmiihdkgaljoaaGreatDoorRows
import Derived.Test.YtlmiihdkgaljoaaGreatDoorProg
import Derived.WalkKit
import Derived.WalkSpells
import Derived.Lib.Builder
import Derived.Test.YtlmiihdkgaljoaaGreatDoorShG
set_option linter.all false

namespace Go.Proofs.YtlmiihdkgaljoaaGreatDoor
open Go.RowKit
set_option maxRecDepth 100000
set_option maxHeartbeats 1000000 in
theorem copy_used (b : Nat) (w : World) (h0 : w.cell? ⟨b, 0, none⟩ = some (.pointer (some ⟨b, 0, none⟩))) :
    Calls Tryz.prog 65 #[.pointer (some ⟨b, 0, none⟩)] w fun e w' => e = .returned (.tuple #[]) ∧ w' = w := by
  obtain ⟨j, hj⟩ : ∃ j, Tryz.prog.info? 60 = some j := ⟨_, rfl⟩
  go_enter Tryz.func65, Tryz.ntmps65
  go_wp2
  rw [Lib.run_neq_ptr_same w _ (by kernel_rfl) hj]
  go_wp2
  go_end0
  exact ⟨rfl, rfl⟩

set_option maxHeartbeats 1000000 in
theorem copy_fresh (b : Nat) (w : World) (h0 : w.cell? ⟨b, 0, none⟩ = some (.pointer none)) (hsh : w.shape? b = some (60, 2)) (hfz : w.frozen? ⟨b, 0, none⟩ = false) :
    Calls Tryz.prog 65 #[.pointer (some ⟨b, 0, none⟩)] w fun e w' => e = .returned (.tuple #[]) ∧ w' = w.setCell ⟨b, 0, none⟩ (.pointer (some ⟨b, 0, none⟩)) := by
  obtain ⟨j, hj, hjs⟩ : ∃ j, Tryz.prog.info? 60 = some j ∧ j.size = 2 := ⟨_, rfl, by kernel_rfl⟩
  go_enter Tryz.func65, Tryz.ntmps65
  go_wp2
  rw [Lib.run_to_unsafe w ⟨b, 0, none⟩ (t := 60) (by kernel_rfl) (by kernel_rfl) hj (by rw [hjs]; decide) hsh (Nat.zero_lt_succ 1)]
  simp only [Result.andThen]
  rw [Oper.upon_value]
  go_wp2
  rw [run_callFunc_extern Tryz.func81 (by kernel_rfl) (by kernel_rfl) (by kernel_rfl) (e := Extern.AbiNoEscape.same) (by kernel_rfl)]
  rw [Lib.run_noEscape]
  simp only [Result.andThen]
  rw [Oper.upon_value]
  go_wp2
  rw [Lib.run_from_unsafe w ⟨b, 0, none⟩ (u := 60) (by kernel_rfl) (by kernel_rfl) hj hsh (by kernel_rfl)]
  simp only [Result.andThen]
  rw [Oper.upon_value]
  go_wp2
  go_end0
  exact ⟨rfl, rfl⟩
end Go.Proofs.YtlmiihdkgaljoaaGreatDoor

namespace Go.Proofs.YtlmiihdkgaljoaaGreatDoor
open Go.RowKit Go.Sh
set_option maxRecDepth 100000
set_option maxHeartbeats 1000000 in
theorem built_row (b g off cap n : Nat) (l : List UInt8) (w : World) (c0 : w.cell? ⟨b, 1, none⟩ = some (.slice (some ⟨g, off, none⟩) l.length cap)) (h0 : l ≠ []) (hle : l.length ≤ cap) (hm : cap ≤ maxLen) (hsh : w.shape? g = some (5, n)) (hn : off + cap ≤ n)
    (hcell : ∀ j x, l[j]? = some x → w.cell? ⟨g, off + j, none⟩ = some (.int .u8 x.toNat)) :
    Calls Tryz.prog 38 #[.pointer (some ⟨b, 0, none⟩)] w fun e w' => e = .returned (.string ⟨l.toArray⟩) ∧ ∃ d, w' = World.freeze { w with drawn := d } ⟨g, off, none⟩ l.length := by
  have hl0 : l.length ≠ 0 := by simpa using h0
  have c1 : w.drew.cell? ⟨b, 1, none⟩ = some (.slice (some ⟨g, off, none⟩) l.length cap) := c0
  have hSD : (Builtin.unsafeSliceData_ #[23] 82 #[.slice (some ⟨g, off, none⟩) l.length cap]).run Tryz.prog w.drew = .ok (.pointer (some ⟨g, off, none⟩)) w.drew :=
    Lib.run_unsafeSliceData_row _ _ _ _ _ _ (by omega)
  have hUS : (Builtin.unsafeString_ #[82, 3] 9 #[.pointer (some ⟨g, off, none⟩), .int .i64 l.length]).run Tryz.prog w.drew = .ok (.string ⟨l.toArray⟩) (w.drew.freeze ⟨g, off, none⟩ l.length) :=
    run_unsafeString_off (P := Tryz.prog) w.drew 82 3 9 5 (by kernel_rfl) (by kernel_rfl) g off n hsh l h0 (by omega) (by unfold maxLen at hm; omega) hcell
  go_enter Tryz.func38, Tryz.ntmps38
  go_wp2
  go_region
  all_goals (go_wp2; go_ret; exact ⟨rfl, _, rfl⟩)

set_option maxHeartbeats 1000000 in
theorem built_nil (b : Nat) (w : World) (c0 : w.cell? ⟨b, 1, none⟩ = some (.slice none 0 0)) :
    Calls Tryz.prog 38 #[.pointer (some ⟨b, 0, none⟩)] w fun e w' => e = .returned (.string ⟨#[]⟩) ∧ WGrow w w' := by
  have c1 : w.drew.cell? ⟨b, 1, none⟩ = some (.slice none 0 0) := c0
  have hSD : (Builtin.unsafeSliceData_ #[23] 82 #[.slice none 0 0]).run Tryz.prog w.drew = .ok (.pointer none) w.drew := rfl
  have hUS : (Builtin.unsafeString_ #[82, 3] 9 #[.pointer none, .int .i64 0]).run Tryz.prog w.drew = .ok (.string ⟨#[]⟩) w.drew :=
    Lib.run_unsafeString_none (P := Tryz.prog) w.drew 82 3 9 none
  go_enter Tryz.func38, Tryz.ntmps38
  go_wp2
  go_region
  all_goals (go_wp2; go_ret; exact ⟨rfl, ⟨Nat.le_refl _, rfl, rfl, rfl, fun _ _ => rfl⟩⟩)
end Go.Proofs.YtlmiihdkgaljoaaGreatDoor
