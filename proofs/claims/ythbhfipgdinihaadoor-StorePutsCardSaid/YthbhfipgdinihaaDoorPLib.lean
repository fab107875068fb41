/- Own work: the shadow machine and what it shows, part PLib. -/
import Derived.Test.YthbhfipgdinihaaDoorPShelf
import Derived.Test.YthbhfipgdinihaaDoorPShG
import Derived.Test.YthbhfipgdinihaaDoorPLen
set_option linter.all false

namespace Go.Proofs.YthbhfipgdinihaaDoor
open Go.RowKit Go.Sh
set_option maxRecDepth 100000

/-- What is known of the library's variables. -/
instance : Facts := ⟨fun w => ∃ m, w.cell? ⟨0, 0, none⟩ = some (.int .i64 m)⟩

theorem lib10 : LibOk Tryd.prog 84 ⟨8, [], .trap, 0, 10, nofn⟩ :=
  lib_join rfl ⟨_, _, Tryd.func84, by kernel_rfl, rfl⟩ Tryd.strings_Join_none Tryd.strings_Join

theorem lib11 : LibOk Tryd.prog 102 ⟨8, [], .trap, 0, 11, nofn⟩ :=
  lib_split rfl ⟨_, _, Tryd.func102, by kernel_rfl, rfl⟩ (t := 9) fun s sep w hD hs h1 => by
    obtain ⟨m, hm⟩ := hD
    exact Tryd.strings_Split s sep m w hs hm h1
theorem libfn_store_Store_Len : LibOk Tryd.prog 39 ⟨8, [], .trap, 0, 15, lenFn⟩ :=
  lib_len rfl rfl ⟨_, _, Tryd.func39, by kernel_rfl, rfl⟩ len_walk
end Go.Proofs.YthbhfipgdinihaaDoor
