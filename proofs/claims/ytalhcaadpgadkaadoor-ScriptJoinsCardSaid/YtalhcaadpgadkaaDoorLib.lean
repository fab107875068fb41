/- Own work, over the shadow machine: JLib. -/
import Derived.Test.YtalhcaadpgadkaaDoorShelf
import Derived.Test.YtalhcaadpgadkaaDoorB2
import Derived.Lib.AppendIntMem
set_option linter.all false
namespace Go.Proofs.YtalhcaadpgadkaaDoor
open Go.RowKit Go.Sh
set_option maxRecDepth 100000

/-- What is known of the library's variables. -/
instance : Facts := ⟨fun w => (∃ m, w.cell? ⟨1, 0, none⟩ = some (.int .i64 m)) ∧ Lib.TabIs Tryd.prog w "internal/strconv.uint64pow10" .u64 Lib.pow10Tab ∧ (∃ te pe, w.cell? ⟨2, 0, none⟩ = some (.iface te pe)) ∧ (∃ te pe, w.cell? ⟨3, 0, none⟩ = some (.iface te pe))⟩

theorem lib10 : LibOk Tryd.prog 18 ⟨8, [], .trap, 0,10⟩ :=
  lib_join rfl ⟨_, _, Tryd.func18, by kernel_rfl, rfl⟩ Tryd.strings_Join_none Tryd.strings_Join

theorem lib11 : LibOk Tryd.prog 58 ⟨8, [], .trap, 0,11⟩ :=
  lib_split rfl ⟨_, _, Tryd.func58, by kernel_rfl, rfl⟩ (t := 9) fun s sep w hD hs h1 => by
    obtain ⟨⟨m, hm⟩, _⟩ := hD
    exact Tryd.strings_Split s sep m w hs hm h1

theorem lib12 : LibOk Tryd.prog 16 ⟨8, [], .trap, 0,12⟩ :=
  lib_itoa rfl ⟨_, _, Tryd.func16, by kernel_rfl, rfl⟩ fun n w hD h0 h1 => (Tryd.strconv_Itoa n h0 h1 w hD.2.1).mono fun e w' he => by
    obtain ⟨rfl, k, os, rfl⟩ := he
    exact ⟨rfl, grow_of_below (Lib.below_grow _ _ (Nat.le_refl _) _ _)⟩

theorem lib13 : LibOk Tryd.prog 36 ⟨8, [], .trap, 110,13⟩ :=
  lib_atoi rfl ⟨_, _, Tryd.func36, by kernel_rfl, rfl⟩ fun s w hD hs => by
    obtain ⟨_, _, ⟨t1, p1, e1⟩, ⟨t2, p2, e2⟩⟩ := hD
    obtain ⟨r, h⟩ : ∃ r, Lib.atoiAll s.data.toList = r := ⟨_, rfl⟩
    rw [h]
    rcases r with v | _ | _
    · refine (Tryd.strconv_Atoi_ok s (by omega) v h w).mono fun e w' he => ?_
      obtain ⟨rfl, he⟩ := he
      refine ⟨?_, rfl⟩
      rcases he with rfl | ⟨t, rfl⟩
      · exact grow_of_below (Below.refl _ _)
      · exact grow_of_below (Lib.bytesWorld_below _ _ _)
    · refine (Tryd.strconv_Atoi_syntax s hs h _ w e1 (.inr ⟨_, _, rfl⟩)).mono fun e w' he => ?_
      obtain ⟨N, rfl, _, _, hb⟩ := he
      exact ⟨grow_of_below hb, N, rfl⟩
    · refine (Tryd.strconv_Atoi_range s hs h _ w e2 (.inr ⟨_, _, rfl⟩)).mono fun e w' he => ?_
      obtain ⟨N, rfl, _, _, hb⟩ := he
      exact ⟨grow_of_below hb, N, rfl⟩

theorem lib17 : LibOk Tryd.prog 11 ⟨8, [], .trap, 5, 17⟩ :=
  lib_built rfl ⟨_, _, Tryd.func11, by kernel_rfl, rfl⟩ built_nil built_row

theorem lib20 : LibOk Tryd.prog 20 ⟨8, [], .trap, 43, 20⟩ :=
  lib_used rfl ⟨_, _, Tryd.func20, by kernel_rfl, rfl⟩ copy_used copy_fresh
theorem lib14 : LibOk Tryd.prog 35 ⟨8, [], .trap, 0, 14⟩ :=
  lib_cut rfl ⟨_, _, Tryd.func35, by kernel_rfl, rfl⟩ fun s sep w hD hs => by
    obtain ⟨⟨m, hm⟩, _⟩ := hD
    refine (Tryd.strings_Cut s sep m w hs hm).mono fun e w' he => ?_
    obtain ⟨rfl, n, rfl⟩ := he
    exact ⟨rfl, ⟨Nat.le_refl _, rfl, rfl, rfl, fun _ _ => rfl⟩⟩

end Go.Proofs.YtalhcaadpgadkaaDoor
