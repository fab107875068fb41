/- Own work, over the shadow machine: JB2. -/
import Derived.Test.YtalhcaadpgadkaaDoorB1
import Derived.Test.YtalhcaadpgadkaaDoorShG
set_option linter.all false
namespace Go.Proofs.YtalhcaadpgadkaaDoor
open Go.RowKit Go.Sh
set_option maxRecDepth 100000
set_option maxHeartbeats 1000000 in
theorem built_row (b g off cap n : Nat) (l : List UInt8) (w : World) (c0 : w.cell? ⟨b, 1, none⟩ = some (.slice (some ⟨g, off, none⟩) l.length cap)) (h0 : l ≠ []) (hle : l.length ≤ cap) (hm : cap ≤ maxLen) (hsh : w.shape? g = some (5, n)) (hn : off + cap ≤ n)
    (hcell : ∀ j x, l[j]? = some x → w.cell? ⟨g, off + j, none⟩ = some (.int .u8 x.toNat)) :
    Calls Tryd.prog 11 #[.pointer (some ⟨b, 0, none⟩)] w fun e w' => e = .returned (.string ⟨l.toArray⟩) ∧ ∃ d, w' = World.freeze { w with drawn := d } ⟨g, off, none⟩ l.length := by
  have hl0 : l.length ≠ 0 := by simpa using h0
  have c1 : w.drew.cell? ⟨b, 1, none⟩ = some (.slice (some ⟨g, off, none⟩) l.length cap) := c0
  have hSD : (Builtin.unsafeSliceData_ #[41] 65 #[.slice (some ⟨g, off, none⟩) l.length cap]).run Tryd.prog w.drew = .ok (.pointer (some ⟨g, off, none⟩)) w.drew :=
    Lib.run_unsafeSliceData_row _ _ _ _ _ _ (by omega)
  have hUS : (Builtin.unsafeString_ #[65, 3] 9 #[.pointer (some ⟨g, off, none⟩), .int .i64 l.length]).run Tryd.prog w.drew = .ok (.string ⟨l.toArray⟩) (w.drew.freeze ⟨g, off, none⟩ l.length) :=
    run_unsafeString_off (P := Tryd.prog) w.drew 65 3 9 5 (by kernel_rfl) (by kernel_rfl) g off n hsh l h0 (by omega) (by unfold maxLen at hm; omega) hcell
  go_enter Tryd.func11, Tryd.ntmps11
  go_wp2
  go_region
  all_goals (go_wp2; go_ret; exact ⟨rfl, _, rfl⟩)

set_option maxHeartbeats 1000000 in
theorem built_nil (b : Nat) (w : World) (c0 : w.cell? ⟨b, 1, none⟩ = some (.slice none 0 0)) :
    Calls Tryd.prog 11 #[.pointer (some ⟨b, 0, none⟩)] w fun e w' => e = .returned (.string ⟨#[]⟩) ∧ WGrow w w' := by
  have c1 : w.drew.cell? ⟨b, 1, none⟩ = some (.slice none 0 0) := c0
  have hSD : (Builtin.unsafeSliceData_ #[41] 65 #[.slice none 0 0]).run Tryd.prog w.drew = .ok (.pointer none) w.drew := rfl
  have hUS : (Builtin.unsafeString_ #[65, 3] 9 #[.pointer none, .int .i64 0]).run Tryd.prog w.drew = .ok (.string ⟨#[]⟩) w.drew :=
    Lib.run_unsafeString_none (P := Tryd.prog) w.drew 65 3 9 none
  go_enter Tryd.func11, Tryd.ntmps11
  go_wp2
  go_region
  all_goals (go_wp2; go_ret; exact ⟨rfl, ⟨Nat.le_refl _, rfl, rfl, rfl, fun _ _ => rfl⟩⟩)
end Go.Proofs.YtalhcaadpgadkaaDoor
