/- Own work: the shadow machine and what it shows, part Lib. -/
import Derived.Test.YthbhfipgdinihaaGreatDoorShelf
import Derived.Test.YthbhfipgdinihaaGreatDoorShG
set_option linter.all false

namespace Go.Proofs.YthbhfipgdinihaaGreatDoor
open Go.RowKit Go.Sh
set_option maxRecDepth 100000

/-- What is known of the library's variables. -/
instance : Facts := ⟨fun w => ∃ m, w.cell? ⟨0, 0, none⟩ = some (.int .i64 m)⟩

theorem lib10 : LibOk Tryz.prog 121 ⟨8, [], .trap, 0, 10, nofn⟩ :=
  lib_join rfl ⟨_, _, Tryz.func121, by kernel_rfl, rfl⟩ Tryz.strings_Join_none Tryz.strings_Join

theorem lib11 : LibOk Tryz.prog 244 ⟨8, [], .trap, 0, 11, nofn⟩ :=
  lib_split rfl ⟨_, _, Tryz.func244, by kernel_rfl, rfl⟩ (t := 9) fun s sep w hD hs h1 => by
    obtain ⟨m, hm⟩ := hD
    exact Tryz.strings_Split s sep m w hs hm h1
end Go.Proofs.YthbhfipgdinihaaGreatDoor
