/- Own work, over the shadow machine: VLib. -/
import Derived.Test.YtbcdhjalciljaaaDoorShelf
import Derived.Test.YtbcdhjalciljaaaDoorB2
import Derived.Lib.AppendIntMem
set_option linter.all false
namespace Go.Proofs.YtbcdhjalciljaaaDoor
open Go.RowKit Go.Sh
set_option maxRecDepth 100000

/-- What is known of the library's variables. -/
instance : Facts := ⟨fun w => (∃ m, w.cell? ⟨3, 0, none⟩ = some (.int .i64 m)) ∧ Lib.TabIs Tryd.prog w "internal/strconv.uint64pow10" .u64 Lib.pow10Tab ∧ (∃ te pe, w.cell? ⟨1, 0, none⟩ = some (.iface te pe)) ∧ (∃ te pe, w.cell? ⟨2, 0, none⟩ = some (.iface te pe))⟩

theorem lib10 : LibOk Tryd.prog 112 ⟨8, [], .trap, 0, 10⟩ :=
  lib_join rfl ⟨_, _, Tryd.func112, by kernel_rfl, rfl⟩ Tryd.strings_Join_none Tryd.strings_Join

theorem lib11 : LibOk Tryd.prog 82 ⟨8, [], .trap, 0, 11⟩ :=
  lib_split rfl ⟨_, _, Tryd.func82, by kernel_rfl, rfl⟩ (t := 9) fun s sep w hD hs h1 => by
    obtain ⟨⟨m, hm⟩, _⟩ := hD
    exact Tryd.strings_Split s sep m w hs hm h1

theorem lib12 : LibOk Tryd.prog 42 ⟨8, [], .trap, 0, 12⟩ :=
  lib_itoa rfl ⟨_, _, Tryd.func42, by kernel_rfl, rfl⟩ fun n w hD h0 h1 => (Tryd.strconv_Itoa n h0 h1 w hD.2.1).mono fun e w' he => by
    obtain ⟨rfl, k, os, rfl⟩ := he
    exact ⟨rfl, grow_of_below (Lib.below_grow _ _ (Nat.le_refl _) _ _)⟩

theorem lib13 : LibOk Tryd.prog 92 ⟨8, [], .trap, 203, 13⟩ :=
  lib_atoi rfl ⟨_, _, Tryd.func92, by kernel_rfl, rfl⟩ fun s w hD hs => by
    obtain ⟨_, _, ⟨t1, p1, e1⟩, ⟨t2, p2, e2⟩⟩ := hD
    obtain ⟨r, h⟩ : ∃ r, Lib.atoiAll s.data.toList = r := ⟨_, rfl⟩
    rw [h]
    rcases r with v | _ | _
    · refine (Tryd.strconv_Atoi_ok s (by omega) v h w).mono fun e w' he => ?_
      obtain ⟨rfl, he⟩ := he
      refine ⟨?_, rfl⟩
      rcases he with rfl | ⟨t, rfl⟩
      · exact grow_of_below (Below.refl _ _)
      · exact grow_of_below (Lib.bytesWorld_below _ _ _)
    · refine (Tryd.strconv_Atoi_syntax s hs h _ w e1 (.inr ⟨_, _, rfl⟩)).mono fun e w' he => ?_
      obtain ⟨N, rfl, _, _, hb⟩ := he
      exact ⟨grow_of_below hb, N, rfl⟩
    · refine (Tryd.strconv_Atoi_range s hs h _ w e2 (.inr ⟨_, _, rfl⟩)).mono fun e w' he => ?_
      obtain ⟨N, rfl, _, _, hb⟩ := he
      exact ⟨grow_of_below hb, N, rfl⟩

theorem lib17 : LibOk Tryd.prog 73 ⟨8, [], .trap, 5, 17⟩ :=
  lib_built rfl ⟨_, _, Tryd.func73, by kernel_rfl, rfl⟩ built_nil built_row

theorem lib20 : LibOk Tryd.prog 114 ⟨8, [], .trap, 117, 20⟩ :=
  lib_used rfl ⟨_, _, Tryd.func114, by kernel_rfl, rfl⟩ copy_used copy_fresh
end Go.Proofs.YtbcdhjalciljaaaDoor
