/- Own work, over the shadow machine: JSpec4. -/
import Derived.Test.YtalhcaadpgadkaaDoorSp3
set_option linter.all false
namespace Go.Proofs.YtalhcaadpgadkaaDoor
open Go.Sh
set_option maxRecDepth 100000

/-! ## The document's line of a change -/

theorem catB {a b : List UInt8} (h : a.length + b.length ≤ 100000000) : gStr .add (mkB a) (mkB b) = some (.str (mkB (a ++ b))) := by
  have e : mkB a ++ mkB b = mkB (a ++ b) := ba_ext (by simp)
  simp only [gStr]; rw [if_pos (by simp [maxLen]; omega), e]
theorem catK {a : List UInt8} {b : Array UInt8} (h : a.length + b.toList.length ≤ 100000000) : gStr .add (mkB a) ⟨b⟩ = some (.str (mkB (a ++ b.toList))) := by
  have := catB (a := a) (b := b.toList) h
  exact this
theorem catL {b : List UInt8} {a : Array UInt8} (h : a.toList.length + b.length ≤ 100000000) : gStr .add ⟨a⟩ (mkB b) = some (.str (mkB (a.toList ++ b))) := by
  have := catB (a := a.toList) (b := b) h
  exact this

theorem catC {a b : Array UInt8} (h : a.toList.length + b.toList.length ≤ 100000000) : gStr .add ⟨a⟩ ⟨b⟩ = some (.str (mkB (a.toList ++ b.toList))) := by
  have := catB (a := a.toList) (b := b.toList) h
  exact this

end Go.Proofs.YtalhcaadpgadkaaDoor
