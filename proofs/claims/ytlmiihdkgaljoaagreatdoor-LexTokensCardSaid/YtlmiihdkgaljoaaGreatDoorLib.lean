/- Own work: the shadow machine and what it shows, part Lib. -/
import Derived.Test.YtlmiihdkgaljoaaGreatDoorShelf
import Derived.Test.YtlmiihdkgaljoaaGreatDoorB
import Derived.Lib.AppendIntMem
set_option linter.all false

namespace Go.Proofs.YtlmiihdkgaljoaaGreatDoor
open Go.RowKit Go.Sh
set_option maxRecDepth 100000

/-- What is known of the library's variables. -/
instance : Facts := ⟨fun w => (∃ m, w.cell? ⟨2, 0, none⟩ = some (.int .i64 m)) ∧ Lib.TabIs Tryz.prog w "internal/strconv.uint64pow10" .u64 Lib.pow10Tab ∧ (∃ te pe, w.cell? ⟨3, 0, none⟩ = some (.iface te pe)) ∧ (∃ te pe, w.cell? ⟨4, 0, none⟩ = some (.iface te pe))⟩

theorem lib10 : LibOk Tryz.prog 17 ⟨8, [], .trap, 0, 10, nofn⟩ :=
  lib_join rfl ⟨_, _, Tryz.func17, by kernel_rfl, rfl⟩ Tryz.strings_Join_none Tryz.strings_Join

theorem lib11 : LibOk Tryz.prog 79 ⟨8, [], .trap, 0, 11, nofn⟩ :=
  lib_split rfl ⟨_, _, Tryz.func79, by kernel_rfl, rfl⟩ (t := 9) fun s sep w hD hs h1 => by
    obtain ⟨⟨m, hm⟩, _⟩ := hD
    exact Tryz.strings_Split s sep m w hs hm h1

theorem lib12 : LibOk Tryz.prog 33 ⟨8, [], .trap, 0, 12, nofn⟩ :=
  lib_itoa rfl ⟨_, _, Tryz.func33, by kernel_rfl, rfl⟩ fun n w hD h0 h1 => (Tryz.strconv_Itoa n h0 h1 w hD.2.1).mono fun e w' he => by
    obtain ⟨rfl, k, os, rfl⟩ := he
    exact ⟨rfl, grow_of_below (Lib.below_grow _ _ (Nat.le_refl _) _ _)⟩

theorem lib13 : LibOk Tryz.prog 54 ⟨8, [], .trap, 108, 13, nofn⟩ :=
  lib_atoi rfl ⟨_, _, Tryz.func54, by kernel_rfl, rfl⟩ fun s w hD hs => by
    obtain ⟨_, _, ⟨t1, p1, e1⟩, ⟨t2, p2, e2⟩⟩ := hD
    obtain ⟨r, h⟩ : ∃ r, Lib.atoiAll s.data.toList = r := ⟨_, rfl⟩
    rw [h]
    rcases r with v | _ | _
    · refine (Tryz.strconv_Atoi_ok s (by omega) v h w).mono fun e w' he => ?_
      obtain ⟨rfl, he⟩ := he
      refine ⟨?_, rfl⟩
      rcases he with rfl | ⟨t, rfl⟩
      · exact grow_of_below (Below.refl _ _)
      · exact grow_of_below (Lib.bytesWorld_below _ _ _)
    · refine (Tryz.strconv_Atoi_syntax s hs h _ w e1 (.inr ⟨_, _, rfl⟩)).mono fun e w' he => ?_
      obtain ⟨N, rfl, _, _, hb⟩ := he
      exact ⟨grow_of_below hb, N, rfl⟩
    · refine (Tryz.strconv_Atoi_range s hs h _ w e2 (.inr ⟨_, _, rfl⟩)).mono fun e w' he => ?_
      obtain ⟨N, rfl, _, _, hb⟩ := he
      exact ⟨grow_of_below hb, N, rfl⟩

theorem lib17 : LibOk Tryz.prog 38 ⟨8, [], .trap, 5, 17, nofn⟩ :=
  lib_built rfl ⟨_, _, Tryz.func38, by kernel_rfl, rfl⟩ built_nil built_row

theorem lib20 : LibOk Tryz.prog 65 ⟨8, [], .trap, 60, 20, nofn⟩ :=
  lib_used rfl ⟨_, _, Tryz.func65, by kernel_rfl, rfl⟩ copy_used copy_fresh
end Go.Proofs.YtlmiihdkgaljoaaGreatDoor
