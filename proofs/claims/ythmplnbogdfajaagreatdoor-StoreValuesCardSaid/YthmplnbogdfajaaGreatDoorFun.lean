/- Own work: the shadow machine and what it shows, part Fun. -/
import Derived.Test.YthmplnbogdfajaaGreatDoorChecked
import Derived.Test.YthmplnbogdfajaaGreatDoorShT
import Derived.Test.YthmplnbogdfajaaGreatDoorLib
set_option linter.all false

namespace Go.Proofs.YthmplnbogdfajaaGreatDoor
open Go.Sh
set_option maxRecDepth 100000

abbrev f_hedgerowlaw07_StoreCopies : Nat := 5
abbrev f_hedgerowlaw07_StoreValues : Nat := 6
abbrev f_hedgerowlaw07_fixed : Nat := 8
abbrev f_hedgerowlaw07_few : Nat := 9
abbrev f_hedgerowref07_Causal : Nat := 10
abbrev f_store_New : Nat := 11
abbrev f_store_Store_Do : Nat := 12
abbrev f_store_Store_All : Nat := 13
abbrev f_hedgerowref07_Live : Nat := 15
abbrev f_store_Store_Entries : Nat := 17
abbrev f_store_Store_Has : Nat := 18
abbrev f_store_Store_Len : Nat := 19
abbrev f_store_Store_Put : Nat := 20
abbrev f_store_Store_Values : Nat := 21
abbrev f_hedgerowref01_Compare : Nat := 22
abbrev f_hedgerowref06_Short : Nat := 24
abbrev f_store_Order : Nat := 29
abbrev f_hedgerowref06_Right : Nat := 30
abbrev f_event_Right : Nat := 31
abbrev f_slices_DeleteFuncstore_Entrystore_Entry : Nat := 32
abbrev f_slices_Clonestore_Entrystore_Entry : Nat := 33
abbrev f_store_Store_Do_1 : Nat := 34
abbrev f_vector_Knows : Nat := 35
abbrev f_slices_BinarySearchFuncstore_Entrystore_Entrystore_Entry : Nat := 36
abbrev f_store_byDot : Nat := 37
abbrev f_slices_Insertstore_Entrystore_Entry : Nat := 38
abbrev f_store_Store_lay : Nat := 39
abbrev f_slices_SortFuncstore_Itemstore_Item : Nat := 40
abbrev f_store_Store_All_1 : Nat := 41
abbrev f_hedgerowref07_knows : Nat := 43
abbrev f_value_Elem : Nat := 45
abbrev f_store_entry : Nat := 46
abbrev f_slices_SortFuncapi_Valueapi_Value : Nat := 47
abbrev f_value_Compare : Nat := 48
abbrev f_slices_Compactapi_Valueapi_Value : Nat := 49
abbrev f_cmp_Orint : Nat := 67
abbrev f_cmp_Compareint : Nat := 68
abbrev f_cmp_Comparestring : Nat := 69
abbrev f_hedgerowref06_Change : Nat := 70
abbrev f_vector_Next : Nat := 71
abbrev f_vector_Right : Nat := 72
abbrev f_event_Change : Nat := 73
abbrev f_event_Of : Nat := 74
abbrev f_slices_IndexFuncstore_Entrystore_Entry : Nat := 75
abbrev f_vector_Dot : Nat := 76
abbrev f_value_names : Nat := 82
abbrev f_value_empty : Nat := 83
abbrev f_cmp_isNaNint : Nat := 94
abbrev f_cmp_isNaNstring : Nat := 95
abbrev f_hedgerowref01_Elem : Nat := 96
abbrev f_hedgerowref01_Right : Nat := 97
abbrev f_event_may : Nat := 98
abbrev f_value_Name : Nat := 110
abbrev f_strings_Join : Nat := 111
abbrev f_hedgerowref01_Name : Nat := 123
abbrev f_hedgerowref01_plain : Nat := 124
abbrev f_hedgerowref01_Link : Nat := 125
abbrev f_event_kept : Nat := 126
abbrev f_event_scalar : Nat := 127
abbrev f_value_letter : Nat := 134
abbrev f_value_inner : Nat := 135
abbrev f_hedgerowref01_Split : Nat := 142
abbrev f_value_Right : Nat := 143
abbrev f_value_plain : Nat := 148
abbrev f_value_Link : Nat := 149
abbrev f_strings_Split : Nat := 152
def L0_hedgerowlaw07_StoreCopies : ICode :=
 .seq
 (.region [
 ⟨(some 31), none, .bin .lss, [.slot 30, .slot 29], none⟩])
 (.seq
 (.cond (.slot 31)
 (.skip)
 (.exit 0))
 (.seq
 (.block 1
 (.seq
 (.region [
 ⟨(some 32), none, .ixaddr 27, [.slot 28, .slot 30], none⟩,
 ⟨(some 33), none, .load 27 true, [.slot 32], none⟩,
 ⟨(some 10), none, .allocL [(.int .i64 0), (.int .i64 0), (.int .i64 0), (.int .i64 0), (.int .i64 0), (.int .i64 0), (.int .i64 0), (.int .i64 0), (.int .i64 0), (.int .i64 0), (.int .i64 0), (.int .i64 0), (.int .i64 0), (.int .i64 0), (.int .i64 0), (.int .i64 0), (.int .i64 0), (.int .i64 0), (.int .i64 0), (.int .i64 0), (.str ⟨#[]⟩), (.str ⟨#[]⟩), (.str ⟨#[]⟩), (.str ⟨#[]⟩), (.int .i64 0), (.int .i64 0), (.str ⟨#[]⟩)], [], none⟩,
 ⟨none, none, .store 27, [.slot 10, .slot 33], none⟩])
 (.region [
 ⟨(some 34), none, .id, [.slot 7], none⟩,
 ⟨(some 35), none, .load 27 true, [.slot 10], none⟩,
 ⟨(some 36), none, .call f_store_Store_Do, [.slot 34, .slot 35], none⟩])))
 (.region [
 ⟨(some 37), none, .bin .add, [.slot 30, .val (.int .i64 1)], none⟩,
 ⟨(some 30), none, .id, [.slot 37], none⟩])))
def L1_hedgerowlaw07_StoreCopies : ICode :=
 .seq
 (.region [
 ⟨(some 43), none, .bin .lss, [.slot 42, .slot 41], none⟩])
 (.seq
 (.cond (.slot 43)
 (.skip)
 (.exit 2))
 (.seq
 (.block 3
 (.seq
 (.region [
 ⟨(some 44), none, .id, [.slot 42], none⟩,
 ⟨(some 12), none, .id, [.slot 44], none⟩])
 (.seq
 (.region [
 ⟨(some 45), none, .id, [.slot 8], none⟩,
 ⟨(some 46), none, .id, [.slot 11], none⟩,
 ⟨(some 47), none, .id, [.slot 12], none⟩,
 ⟨(some 48), none, .id, [.slot 1], none⟩,
 ⟨(some 49), none, .conv .i64, [.slot 48], none⟩,
 ⟨(some 50), none, .bin .add, [.slot 47, .slot 49], none⟩,
 ⟨(some 51), none, .id, [.slot 11], none⟩,
 ⟨(some 52), none, .lensl, [.slot 51], none⟩,
 ⟨(some 53), none, .bin .rem, [.slot 50, .slot 52], none⟩,
 ⟨(some 54), none, .ixaddr 6, [.slot 46, .slot 53], none⟩,
 ⟨(some 55), none, .load 6 true, [.slot 54], none⟩,
 ⟨(some 56), none, .call f_store_Store_Put, [.slot 45, .slot 55], none⟩,
 ⟨(some 57), none, .bin .neq, [.slot 56, .val (.int .i64 0)], none⟩])
 (.cond (.slot 57)
 (.seq
 (.region [
 ⟨(some 4), none, .id, [.val (.bool false)], none⟩])
 (.ret))
 (.skip)))))
 (.region [
 ⟨(some 58), none, .bin .add, [.slot 42, .val (.int .i64 1)], none⟩,
 ⟨(some 42), none, .id, [.slot 58], none⟩])))
def L2_hedgerowlaw07_StoreCopies : ICode :=
 .seq
 (.region [
 ⟨(some 111), none, .bin .lss, [.slot 110, .slot 109], none⟩])
 (.seq
 (.cond (.slot 111)
 (.skip)
 (.exit 6))
 (.seq
 (.block 7
 (.seq
 (.region [
 ⟨(some 112), none, .id, [.slot 110], none⟩,
 ⟨(some 15), none, .id, [.slot 112], none⟩])
 (.seq
 (.region [
 ⟨(some 113), none, .id, [.slot 13], none⟩,
 ⟨(some 114), none, .id, [.slot 14], none⟩,
 ⟨(some 115), none, .ixaddr 6, [.slot 113, .slot 114], none⟩,
 ⟨(some 116), none, .faddr 5, [.slot 115], none⟩,
 ⟨(some 117), none, .load 1 false, [.slot 116], (some (.el))⟩,
 ⟨(some 118), none, .id, [.slot 15], none⟩,
 ⟨(some 119), none, .ixaddr 5, [.slot 117, .slot 118], none⟩,
 ⟨(some 120), none, .load 5 true, [.slot 119], (some (.el))⟩,
 ⟨(some 121), none, .id, [.slot 11], none⟩,
 ⟨(some 122), none, .id, [.slot 14], none⟩,
 ⟨(some 123), none, .ixaddr 6, [.slot 121, .slot 122], none⟩,
 ⟨(some 124), none, .faddr 5, [.slot 123], none⟩,
 ⟨(some 125), none, .load 1 false, [.slot 124], (some (.el))⟩,
 ⟨(some 126), none, .id, [.slot 15], none⟩,
 ⟨(some 127), none, .ixaddr 5, [.slot 125, .slot 126], none⟩,
 ⟨(some 128), none, .load 5 true, [.slot 127], (some (.el))⟩,
 ⟨(some 129), none, .eqv true [(.int .i64), (.int .i64), (.int .i64), (.int .i64), .str], [.slot 120, .slot 128], none⟩])
 (.cond (.slot 129)
 (.seq
 (.region [
 ⟨(some 4), none, .id, [.val (.bool false)], none⟩])
 (.ret))
 (.skip)))))
 (.region [
 ⟨(some 130), none, .bin .add, [.slot 110, .val (.int .i64 1)], none⟩,
 ⟨(some 110), none, .id, [.slot 130], none⟩])))
def L3_hedgerowlaw07_StoreCopies : ICode :=
 .seq
 (.region [
 ⟨(some 76), none, .bin .lss, [.slot 75, .slot 74], none⟩])
 (.seq
 (.cond (.slot 76)
 (.skip)
 (.exit 4))
 (.seq
 (.block 5
 (.seq
 (.region [
 ⟨(some 77), none, .id, [.slot 75], none⟩,
 ⟨(some 14), none, .id, [.slot 77], none⟩])
 (.seq
 (.seq
 (.region [
 ⟨(some 78), none, .id, [.slot 13], none⟩,
 ⟨(some 79), none, .id, [.slot 14], none⟩,
 ⟨(some 80), none, .ixaddr 6, [.slot 78, .slot 79], none⟩,
 ⟨(some 81), none, .faddr 0, [.slot 80], none⟩,
 ⟨(some 82), none, .load 5 true, [.slot 81], (some (.el))⟩,
 ⟨(some 83), none, .id, [.slot 11], none⟩,
 ⟨(some 84), none, .id, [.slot 14], none⟩,
 ⟨(some 85), none, .ixaddr 6, [.slot 83, .slot 84], none⟩,
 ⟨(some 86), none, .faddr 0, [.slot 85], none⟩,
 ⟨(some 87), none, .load 5 true, [.slot 86], (some (.el))⟩,
 ⟨(some 88), none, .eqv true [(.int .i64), .str, .str, .str, .str], [.slot 82, .slot 87], none⟩,
 ⟨(some 89), none, .id, [.slot 88], none⟩,
 ⟨(some 90), (some (89, false)), .id, [.slot 13], none⟩,
 ⟨(some 91), (some (89, false)), .id, [.slot 14], none⟩,
 ⟨(some 92), (some (89, false)), .ixaddr 6, [.slot 90, .slot 91], none⟩,
 ⟨(some 93), (some (89, false)), .faddr 5, [.slot 92], none⟩,
 ⟨(some 94), (some (89, false)), .load 1 false, [.slot 93], (some (.el))⟩,
 ⟨(some 95), (some (89, false)), .lensl, [.slot 94], none⟩,
 ⟨(some 96), (some (89, false)), .id, [.slot 11], none⟩,
 ⟨(some 97), (some (89, false)), .id, [.slot 14], none⟩,
 ⟨(some 98), (some (89, false)), .ixaddr 6, [.slot 96, .slot 97], none⟩,
 ⟨(some 99), (some (89, false)), .faddr 5, [.slot 98], none⟩,
 ⟨(some 100), (some (89, false)), .load 1 false, [.slot 99], (some (.el))⟩,
 ⟨(some 101), (some (89, false)), .lensl, [.slot 100], none⟩,
 ⟨(some 102), (some (89, false)), .bin .neq, [.slot 95, .slot 101], none⟩,
 ⟨(some 103), none, .pick, [.slot 89, .val (.bool true), .slot 102], none⟩])
 (.cond (.slot 103)
 (.seq
 (.region [
 ⟨(some 4), none, .id, [.val (.bool false)], none⟩])
 (.ret))
 (.skip)))
 (.seq
 (.region [
 ⟨(some 104), none, .id, [.slot 11], none⟩,
 ⟨(some 105), none, .id, [.slot 14], none⟩,
 ⟨(some 106), none, .ixaddr 6, [.slot 104, .slot 105], none⟩,
 ⟨(some 107), none, .faddr 5, [.slot 106], none⟩,
 ⟨(some 108), none, .load 1 false, [.slot 107], none⟩,
 ⟨(some 109), none, .lensl, [.slot 108], none⟩,
 ⟨(some 110), none, .id, [.val (.int .i64 0)], none⟩])
 (.block 6
 (.loop L2_hedgerowlaw07_StoreCopies))))))
 (.region [
 ⟨(some 131), none, .bin .add, [.slot 75, .val (.int .i64 1)], none⟩,
 ⟨(some 75), none, .id, [.slot 131], none⟩])))
def b_hedgerowlaw07_StoreCopies : ICode :=
 .seq
 (.region [
 ⟨(some 4), none, .id, [.val (.bool false)], none⟩])
 (.seq
 (.seq
 (.region [
 ⟨(some 16), none, .call f_hedgerowlaw07_fixed, [], none⟩,
 ⟨(some 17), none, .un .not, [.slot 16], none⟩])
 (.cond (.slot 17)
 (.seq
 (.region [
 ⟨(some 4), none, .id, [.val (.bool false)], none⟩])
 (.ret))
 (.skip)))
 (.seq
 (.seq
 (.region [
 ⟨(some 18), none, .id, [.slot 0], none⟩,
 ⟨(some 19), none, .call f_hedgerowlaw07_few, [.slot 18], none⟩,
 ⟨(some 20), none, .un .not, [.slot 19], none⟩])
 (.cond (.slot 20)
 (.seq
 (.region [
 ⟨(some 4), none, .id, [.val (.bool true)], none⟩])
 (.ret))
 (.skip)))
 (.seq
 (.region [
 ⟨(some 22), none, .id, [.slot 0], none⟩,
 ⟨(some 23), none, .call f_hedgerowref07_Causal, [.slot 22], none⟩,
 ⟨(some 21), none, .id, [.slot 23], none⟩,
 ⟨(some 24), none, .extract 0, [.slot 21], none⟩,
 ⟨(some 25), none, .extract 1, [.slot 21], none⟩,
 ⟨(some 6), none, .allocL [(.int .i64 0), (.int .i64 0), (.int .i64 0), (.int .i64 0), (.int .i64 0), (.int .i64 0), (.int .i64 0), (.int .i64 0), (.int .i64 0), (.int .i64 0), (.int .i64 0), (.int .i64 0), (.int .i64 0), (.int .i64 0), (.int .i64 0), (.int .i64 0)], [], none⟩,
 ⟨(some 5), none, .id, [.slot 24], none⟩,
 ⟨none, none, .store 16, [.slot 6, .slot 25], none⟩])
 (.seq
 (.region [
 ⟨(some 26), none, .call f_store_New, [], none⟩,
 ⟨(some 27), none, .call f_store_New, [], none⟩,
 ⟨(some 7), none, .id, [.slot 26], none⟩,
 ⟨(some 8), none, .id, [.slot 27], none⟩])
 (.seq
 (.seq
 (.region [
 ⟨(some 28), none, .id, [.slot 5], none⟩,
 ⟨(some 29), none, .lensl, [.slot 28], none⟩,
 ⟨(some 30), none, .id, [.val (.int .i64 0)], none⟩])
 (.block 0
 (.loop L0_hedgerowlaw07_StoreCopies)))
 (.seq
 (.region [
 ⟨(some 38), none, .id, [.slot 7], none⟩,
 ⟨(some 39), none, .call f_store_Store_All, [.slot 38], none⟩,
 ⟨(some 11), none, .id, [.slot 39], none⟩])
 (.seq
 (.seq
 (.region [
 ⟨(some 40), none, .id, [.slot 11], none⟩,
 ⟨(some 41), none, .lensl, [.slot 40], none⟩,
 ⟨(some 42), none, .id, [.val (.int .i64 0)], none⟩])
 (.block 2
 (.loop L1_hedgerowlaw07_StoreCopies)))
 (.seq
 (.region [
 ⟨(some 59), none, .id, [.slot 8], none⟩,
 ⟨(some 60), none, .call f_store_Store_All, [.slot 59], none⟩,
 ⟨(some 13), none, .id, [.slot 60], none⟩])
 (.seq
 (.seq
 (.region [
 ⟨(some 61), none, .id, [.slot 13], none⟩,
 ⟨(some 62), none, .lensl, [.slot 61], none⟩,
 ⟨(some 63), none, .id, [.slot 11], none⟩,
 ⟨(some 64), none, .lensl, [.slot 63], none⟩,
 ⟨(some 65), none, .bin .neq, [.slot 62, .slot 64], none⟩,
 ⟨(some 66), none, .id, [.slot 65], none⟩,
 ⟨(some 67), (some (66, false)), .id, [.slot 7], none⟩,
 ⟨(some 68), (some (66, false)), .call f_store_Store_Len, [.slot 67], none⟩,
 ⟨(some 69), (some (66, false)), .id, [.slot 8], none⟩,
 ⟨(some 70), (some (66, false)), .call f_store_Store_Len, [.slot 69], none⟩,
 ⟨(some 71), (some (66, false)), .bin .neq, [.slot 68, .slot 70], none⟩,
 ⟨(some 72), none, .pick, [.slot 66, .val (.bool true), .slot 71], none⟩])
 (.cond (.slot 72)
 (.seq
 (.region [
 ⟨(some 4), none, .id, [.val (.bool false)], none⟩])
 (.ret))
 (.skip)))
 (.seq
 (.seq
 (.region [
 ⟨(some 73), none, .id, [.slot 11], none⟩,
 ⟨(some 74), none, .lensl, [.slot 73], none⟩,
 ⟨(some 75), none, .id, [.val (.int .i64 0)], none⟩])
 (.block 4
 (.loop L3_hedgerowlaw07_StoreCopies)))
 (.seq
 (.region [
 ⟨(some 4), none, .id, [.val (.bool true)], none⟩])
 (.ret))))))))))))
def F_hedgerowlaw07_StoreCopies : IFun := ⟨132, [.slot 4], b_hedgerowlaw07_StoreCopies, 3, 0, nofn⟩
theorem c_hedgerowlaw07_StoreCopies : cFun Tryz.prog [1048582, 1048586, 2097160, 2097171] 0 f_hedgerowlaw07_StoreCopies = some F_hedgerowlaw07_StoreCopies := by kernel_rfl

def L0_hedgerowlaw07_StoreValues : ICode :=
 .seq
 (.region [
 ⟨(some 35), none, .bin .lss, [.slot 34, .slot 33], none⟩])
 (.seq
 (.cond (.slot 35)
 (.skip)
 (.exit 0))
 (.seq
 (.block 1
 (.seq
 (.region [
 ⟨(some 36), none, .ixaddr 27, [.slot 32, .slot 34], none⟩,
 ⟨(some 37), none, .load 27 true, [.slot 36], none⟩,
 ⟨(some 9), none, .allocL [(.int .i64 0), (.int .i64 0), (.int .i64 0), (.int .i64 0), (.int .i64 0), (.int .i64 0), (.int .i64 0), (.int .i64 0), (.int .i64 0), (.int .i64 0), (.int .i64 0), (.int .i64 0), (.int .i64 0), (.int .i64 0), (.int .i64 0), (.int .i64 0), (.int .i64 0), (.int .i64 0), (.int .i64 0), (.int .i64 0), (.str ⟨#[]⟩), (.str ⟨#[]⟩), (.str ⟨#[]⟩), (.str ⟨#[]⟩), (.int .i64 0), (.int .i64 0), (.str ⟨#[]⟩)], [], none⟩,
 ⟨none, none, .store 27, [.slot 9, .slot 37], none⟩])
 (.region [
 ⟨(some 38), none, .id, [.slot 7], none⟩,
 ⟨(some 39), none, .load 27 true, [.slot 9], none⟩,
 ⟨(some 40), none, .call f_store_Store_Do, [.slot 38, .slot 39], none⟩])))
 (.region [
 ⟨(some 41), none, .bin .add, [.slot 34, .val (.int .i64 1)], none⟩,
 ⟨(some 34), none, .id, [.slot 41], none⟩])))
def L1_hedgerowlaw07_StoreValues : ICode :=
 .seq
 (.region [
 ⟨(some 69), none, .bin .lss, [.slot 68, .slot 67], none⟩])
 (.seq
 (.cond (.slot 69)
 (.skip)
 (.exit 4))
 (.seq
 (.block 5
 (.seq
 (.region [
 ⟨(some 70), none, .ixaddr 27, [.slot 66, .slot 68], none⟩,
 ⟨(some 71), none, .load 27 true, [.slot 70], none⟩,
 ⟨(some 15), none, .allocL [(.int .i64 0), (.int .i64 0), (.int .i64 0), (.int .i64 0), (.int .i64 0), (.int .i64 0), (.int .i64 0), (.int .i64 0), (.int .i64 0), (.int .i64 0), (.int .i64 0), (.int .i64 0), (.int .i64 0), (.int .i64 0), (.int .i64 0), (.int .i64 0), (.int .i64 0), (.int .i64 0), (.int .i64 0), (.int .i64 0), (.str ⟨#[]⟩), (.str ⟨#[]⟩), (.str ⟨#[]⟩), (.str ⟨#[]⟩), (.int .i64 0), (.int .i64 0), (.str ⟨#[]⟩)], [], none⟩,
 ⟨none, none, .store 27, [.slot 15, .slot 71], none⟩])
 (.region [
 ⟨(some 72), none, .id, [.slot 13], none⟩,
 ⟨(some 73), none, .id, [.slot 72], none⟩,
 ⟨(some 74), (some (73, false)), .faddr 24, [.slot 15], none⟩,
 ⟨(some 75), (some (73, false)), .load 3 true, [.slot 74], none⟩,
 ⟨(some 76), (some (73, false)), .load 3 true, [.slot 12], none⟩,
 ⟨(some 77), (some (73, false)), .eqv false [(.int .i64), (.int .i64), .str], [.slot 75, .slot 76], none⟩,
 ⟨(some 78), none, .pick, [.slot 73, .val (.bool true), .slot 77], none⟩,
 ⟨(some 13), none, .id, [.slot 78], none⟩])))
 (.region [
 ⟨(some 79), none, .bin .add, [.slot 68, .val (.int .i64 1)], none⟩,
 ⟨(some 68), none, .id, [.slot 79], none⟩])))
def L2_hedgerowlaw07_StoreValues : ICode :=
 .seq
 (.region [
 ⟨(some 48), none, .bin .lss, [.slot 47, .slot 46], none⟩])
 (.seq
 (.cond (.slot 48)
 (.skip)
 (.exit 2))
 (.seq
 (.block 3
 (.seq
 (.region [
 ⟨(some 49), none, .id, [.slot 47], none⟩,
 ⟨(some 50), none, .ixaddr 3, [.slot 45, .slot 47], none⟩,
 ⟨(some 51), none, .load 3 true, [.slot 50], none⟩,
 ⟨(some 12), none, .allocL [(.int .i64 0), (.int .i64 0), (.str ⟨#[]⟩)], [], none⟩,
 ⟨(some 11), none, .id, [.slot 49], none⟩,
 ⟨none, none, .store 3, [.slot 12, .slot 51], none⟩])
 (.seq
 (.seq
 (.region [
 ⟨(some 52), none, .id, [.slot 11], none⟩,
 ⟨(some 53), none, .bin .gtr, [.slot 52, .val (.int .i64 0)], none⟩,
 ⟨(some 54), none, .id, [.slot 53], none⟩,
 ⟨(some 55), (some (54, true)), .id, [.slot 10], none⟩,
 ⟨(some 56), (some (54, true)), .id, [.slot 11], none⟩,
 ⟨(some 57), (some (54, true)), .bin .sub, [.slot 56, .val (.int .i64 1)], none⟩,
 ⟨(some 58), (some (54, true)), .ixaddr 3, [.slot 55, .slot 57], none⟩,
 ⟨(some 59), (some (54, true)), .load 3 true, [.slot 58], (some (.heap))⟩,
 ⟨(some 60), (some (54, true)), .load 3 true, [.slot 12], (some (.loc 12))⟩,
 ⟨(some 61), (some (54, true)), .call f_hedgerowref01_Compare, [.slot 59, .slot 60], none⟩,
 ⟨(some 62), (some (54, true)), .bin .geq, [.slot 61, .val (.int .i64 0)], none⟩,
 ⟨(some 63), none, .pick, [.slot 54, .slot 62, .val (.bool false)], none⟩])
 (.cond (.slot 63)
 (.seq
 (.region [
 ⟨(some 4), none, .id, [.val (.bool false)], none⟩])
 (.ret))
 (.skip)))
 (.seq
 (.region [
 ⟨(some 13), none, .id, [.val (.bool false)], none⟩])
 (.seq
 (.seq
 (.region [
 ⟨(some 64), none, .id, [.slot 5], none⟩,
 ⟨(some 65), none, .load 5 true, [.slot 3], none⟩,
 ⟨(some 66), none, .call f_hedgerowref07_Live, [.slot 64, .slot 65], none⟩,
 ⟨(some 67), none, .lensl, [.slot 66], none⟩,
 ⟨(some 68), none, .id, [.val (.int .i64 0)], none⟩])
 (.block 4
 (.loop L1_hedgerowlaw07_StoreValues)))
 (.seq
 (.region [
 ⟨(some 80), none, .id, [.slot 13], none⟩,
 ⟨(some 81), none, .un .not, [.slot 80], none⟩])
 (.cond (.slot 81)
 (.seq
 (.region [
 ⟨(some 4), none, .id, [.val (.bool false)], none⟩])
 (.ret))
 (.skip))))))))
 (.region [
 ⟨(some 82), none, .bin .add, [.slot 47, .val (.int .i64 1)], none⟩,
 ⟨(some 47), none, .id, [.slot 82], none⟩])))
def L3_hedgerowlaw07_StoreValues : ICode :=
 .seq
 (.region [
 ⟨(some 94), none, .bin .lss, [.slot 93, .slot 92], none⟩])
 (.seq
 (.cond (.slot 94)
 (.skip)
 (.exit 8))
 (.seq
 (.block 9
 (.seq
 (.region [
 ⟨(some 95), none, .ixaddr 3, [.slot 91, .slot 93], none⟩,
 ⟨(some 96), none, .load 3 true, [.slot 95], none⟩,
 ⟨(some 20), none, .allocL [(.int .i64 0), (.int .i64 0), (.str ⟨#[]⟩)], [], none⟩,
 ⟨none, none, .store 3, [.slot 20, .slot 96], none⟩])
 (.region [
 ⟨(some 97), none, .id, [.slot 18], none⟩,
 ⟨(some 98), none, .id, [.slot 97], none⟩,
 ⟨(some 99), (some (98, false)), .faddr 24, [.slot 17], none⟩,
 ⟨(some 100), (some (98, false)), .load 3 true, [.slot 99], none⟩,
 ⟨(some 101), (some (98, false)), .load 3 true, [.slot 20], none⟩,
 ⟨(some 102), (some (98, false)), .eqv false [(.int .i64), (.int .i64), .str], [.slot 100, .slot 101], none⟩,
 ⟨(some 103), none, .pick, [.slot 98, .val (.bool true), .slot 102], none⟩,
 ⟨(some 18), none, .id, [.slot 103], none⟩])))
 (.region [
 ⟨(some 104), none, .bin .add, [.slot 93, .val (.int .i64 1)], none⟩,
 ⟨(some 93), none, .id, [.slot 104], none⟩])))
def L4_hedgerowlaw07_StoreValues : ICode :=
 .seq
 (.region [
 ⟨(some 88), none, .bin .lss, [.slot 87, .slot 86], none⟩])
 (.seq
 (.cond (.slot 88)
 (.skip)
 (.exit 6))
 (.seq
 (.block 7
 (.seq
 (.region [
 ⟨(some 89), none, .ixaddr 27, [.slot 85, .slot 87], none⟩,
 ⟨(some 90), none, .load 27 true, [.slot 89], none⟩,
 ⟨(some 17), none, .allocL [(.int .i64 0), (.int .i64 0), (.int .i64 0), (.int .i64 0), (.int .i64 0), (.int .i64 0), (.int .i64 0), (.int .i64 0), (.int .i64 0), (.int .i64 0), (.int .i64 0), (.int .i64 0), (.int .i64 0), (.int .i64 0), (.int .i64 0), (.int .i64 0), (.int .i64 0), (.int .i64 0), (.int .i64 0), (.int .i64 0), (.str ⟨#[]⟩), (.str ⟨#[]⟩), (.str ⟨#[]⟩), (.str ⟨#[]⟩), (.int .i64 0), (.int .i64 0), (.str ⟨#[]⟩)], [], none⟩,
 ⟨none, none, .store 27, [.slot 17, .slot 90], none⟩])
 (.seq
 (.region [
 ⟨(some 18), none, .id, [.val (.bool false)], none⟩])
 (.seq
 (.seq
 (.region [
 ⟨(some 91), none, .id, [.slot 10], none⟩,
 ⟨(some 92), none, .lensl, [.slot 91], none⟩,
 ⟨(some 93), none, .id, [.val (.int .i64 0)], none⟩])
 (.block 8
 (.loop L3_hedgerowlaw07_StoreValues)))
 (.seq
 (.region [
 ⟨(some 105), none, .id, [.slot 18], none⟩,
 ⟨(some 106), none, .un .not, [.slot 105], none⟩])
 (.cond (.slot 106)
 (.seq
 (.region [
 ⟨(some 4), none, .id, [.val (.bool false)], none⟩])
 (.ret))
 (.skip)))))))
 (.region [
 ⟨(some 107), none, .bin .add, [.slot 87, .val (.int .i64 1)], none⟩,
 ⟨(some 87), none, .id, [.slot 107], none⟩])))
def b_hedgerowlaw07_StoreValues : ICode :=
 .seq
 (.region [
 ⟨(some 3), none, .boxL, [.slot 1], none⟩,
 ⟨(some 4), none, .id, [.val (.bool false)], none⟩])
 (.seq
 (.seq
 (.region [
 ⟨(some 21), none, .call f_hedgerowlaw07_fixed, [], none⟩,
 ⟨(some 22), none, .un .not, [.slot 21], none⟩])
 (.cond (.slot 22)
 (.seq
 (.region [
 ⟨(some 4), none, .id, [.val (.bool false)], none⟩])
 (.ret))
 (.skip)))
 (.seq
 (.seq
 (.region [
 ⟨(some 23), none, .id, [.slot 0], none⟩,
 ⟨(some 24), none, .call f_hedgerowlaw07_few, [.slot 23], none⟩,
 ⟨(some 25), none, .un .not, [.slot 24], none⟩])
 (.cond (.slot 25)
 (.seq
 (.region [
 ⟨(some 4), none, .id, [.val (.bool true)], none⟩])
 (.ret))
 (.skip)))
 (.seq
 (.region [
 ⟨(some 27), none, .id, [.slot 0], none⟩,
 ⟨(some 28), none, .call f_hedgerowref07_Causal, [.slot 27], none⟩,
 ⟨(some 26), none, .id, [.slot 28], none⟩,
 ⟨(some 29), none, .extract 0, [.slot 26], none⟩,
 ⟨(some 30), none, .extract 1, [.slot 26], none⟩,
 ⟨(some 6), none, .allocL [(.int .i64 0), (.int .i64 0), (.int .i64 0), (.int .i64 0), (.int .i64 0), (.int .i64 0), (.int .i64 0), (.int .i64 0), (.int .i64 0), (.int .i64 0), (.int .i64 0), (.int .i64 0), (.int .i64 0), (.int .i64 0), (.int .i64 0), (.int .i64 0)], [], none⟩,
 ⟨(some 5), none, .id, [.slot 29], none⟩,
 ⟨none, none, .store 16, [.slot 6, .slot 30], none⟩])
 (.seq
 (.region [
 ⟨(some 31), none, .call f_store_New, [], none⟩,
 ⟨(some 7), none, .id, [.slot 31], none⟩])
 (.seq
 (.seq
 (.region [
 ⟨(some 32), none, .id, [.slot 5], none⟩,
 ⟨(some 33), none, .lensl, [.slot 32], none⟩,
 ⟨(some 34), none, .id, [.val (.int .i64 0)], none⟩])
 (.block 0
 (.loop L0_hedgerowlaw07_StoreValues)))
 (.seq
 (.region [
 ⟨(some 42), none, .id, [.slot 7], none⟩,
 ⟨(some 43), none, .load 5 true, [.slot 3], none⟩,
 ⟨(some 44), none, .call f_store_Store_Values, [.slot 42, .slot 43], none⟩,
 ⟨(some 10), none, .id, [.slot 44], none⟩])
 (.seq
 (.seq
 (.region [
 ⟨(some 45), none, .id, [.slot 10], none⟩,
 ⟨(some 46), none, .lensl, [.slot 45], none⟩,
 ⟨(some 47), none, .id, [.val (.int .i64 0)], none⟩])
 (.block 2
 (.loop L2_hedgerowlaw07_StoreValues)))
 (.seq
 (.seq
 (.region [
 ⟨(some 83), none, .id, [.slot 5], none⟩,
 ⟨(some 84), none, .load 5 true, [.slot 3], none⟩,
 ⟨(some 85), none, .call f_hedgerowref07_Live, [.slot 83, .slot 84], none⟩,
 ⟨(some 86), none, .lensl, [.slot 85], none⟩,
 ⟨(some 87), none, .id, [.val (.int .i64 0)], none⟩])
 (.block 6
 (.loop L4_hedgerowlaw07_StoreValues)))
 (.seq
 (.region [
 ⟨(some 4), none, .id, [.val (.bool true)], none⟩])
 (.ret))))))))))
def F_hedgerowlaw07_StoreValues : IFun := ⟨108, [.slot 4], b_hedgerowlaw07_StoreValues, 3, 0, nofn⟩
theorem c_hedgerowlaw07_StoreValues : cFun Tryz.prog [1048579, 1048582, 1048585, 1048588, 1048591, 1048593, 1048596, 2097160, 3145786] 0 f_hedgerowlaw07_StoreValues = some F_hedgerowlaw07_StoreValues := by kernel_rfl

def b_hedgerowlaw07_fixed : ICode :=
 .seq
 (.region [
 ⟨(some 0), none, .id, [.val (.bool false)], none⟩])
 (.seq
 (.region [
 ⟨(some 7), none, .build [(.int .i64 0), (.str ⟨#[]⟩), (.str ⟨#[]⟩), (.str ⟨#[]⟩), (.str ⟨#[]⟩)] [(0, 1), (1, 1)], [.val (.int .i64 1), .val (.str ⟨#[97]⟩)], none⟩,
 ⟨(some 1), none, .allocL [(.int .i64 0), (.str ⟨#[]⟩), (.str ⟨#[]⟩), (.str ⟨#[]⟩), (.str ⟨#[]⟩)], [], none⟩,
 ⟨none, none, .store 5, [.slot 1, .slot 7], none⟩])
 (.seq
 (.region [
 ⟨(some 8), none, .call f_store_New, [], none⟩,
 ⟨(some 2), none, .id, [.slot 8], none⟩])
 (.seq
 (.region [
 ⟨(some 9), none, .id, [.slot 2], none⟩,
 ⟨(some 10), none, .build [(.int .i64 0), (.int .i64 0)] [(1, 1)], [.val (.int .i64 1)], none⟩,
 ⟨(some 11), none, .load 5 true, [.slot 1], none⟩,
 ⟨(some 12), none, .build [(.int .i64 0), (.int .i64 0), (.int .i64 0), (.int .i64 0), (.int .i64 0), (.int .i64 0), (.int .i64 0), (.int .i64 0), (.int .i64 0), (.int .i64 0), (.int .i64 0), (.int .i64 0), (.int .i64 0), (.int .i64 0), (.int .i64 0), (.int .i64 0), (.int .i64 0), (.int .i64 0), (.int .i64 0), (.int .i64 0), (.str ⟨#[]⟩), (.str ⟨#[]⟩), (.str ⟨#[]⟩), (.str ⟨#[]⟩), (.int .i64 0), (.int .i64 0), (.str ⟨#[]⟩)] [(0, 2), (18, 1), (19, 5)], [.slot 10, .val (.int .i64 1), .slot 11], none⟩,
 ⟨(some 13), none, .call f_store_Store_Do, [.slot 9, .slot 12], none⟩,
 ⟨(some 3), none, .id, [.slot 13], none⟩])
 (.seq
 (.region [
 ⟨(some 14), none, .id, [.slot 2], none⟩,
 ⟨(some 15), none, .build [(.int .i64 0), (.int .i64 0)] [(0, 1), (1, 1)], [.val (.int .i64 1), .val (.int .i64 1)], none⟩,
 ⟨(some 16), none, .load 5 true, [.slot 1], none⟩,
 ⟨(some 17), none, .build [(.int .i64 0), (.int .i64 0), (.int .i64 0), (.int .i64 0), (.int .i64 0), (.int .i64 0), (.int .i64 0), (.int .i64 0), (.int .i64 0), (.int .i64 0), (.int .i64 0), (.int .i64 0), (.int .i64 0), (.int .i64 0), (.int .i64 0), (.int .i64 0), (.int .i64 0), (.int .i64 0), (.int .i64 0), (.int .i64 0), (.str ⟨#[]⟩), (.str ⟨#[]⟩), (.str ⟨#[]⟩), (.str ⟨#[]⟩), (.int .i64 0), (.int .i64 0), (.str ⟨#[]⟩)] [(0, 2), (18, 1), (19, 5)], [.slot 15, .val (.int .i64 2), .slot 16], none⟩,
 ⟨(some 18), none, .call f_store_Store_Do, [.slot 14, .slot 17], none⟩,
 ⟨(some 4), none, .id, [.slot 18], none⟩])
 (.seq
 (.region [
 ⟨(some 19), none, .id, [.slot 2], none⟩,
 ⟨(some 20), none, .load 5 true, [.slot 1], none⟩,
 ⟨(some 21), none, .call f_store_Store_Has, [.slot 19, .slot 20], none⟩,
 ⟨(some 5), none, .id, [.slot 21], none⟩])
 (.seq
 (.region [
 ⟨(some 22), none, .id, [.slot 2], none⟩,
 ⟨(some 23), none, .build [(.int .i64 0), (.int .i64 0)] [(0, 1), (1, 1)], [.val (.int .i64 1), .val (.int .i64 2)], none⟩,
 ⟨(some 24), none, .build [(.int .i64 0), (.int .i64 0), (.int .i64 0), (.int .i64 0), (.int .i64 0), (.int .i64 0), (.int .i64 0), (.int .i64 0), (.int .i64 0), (.int .i64 0), (.int .i64 0), (.int .i64 0), (.int .i64 0), (.int .i64 0), (.int .i64 0), (.int .i64 0)] [(0, 1), (1, 1)], [.val (.int .i64 1), .val (.int .i64 1)], none⟩,
 ⟨(some 25), none, .load 5 true, [.slot 1], none⟩,
 ⟨(some 26), none, .build [(.int .i64 0), (.int .i64 0), (.int .i64 0), (.int .i64 0), (.int .i64 0), (.int .i64 0), (.int .i64 0), (.int .i64 0), (.int .i64 0), (.int .i64 0), (.int .i64 0), (.int .i64 0), (.int .i64 0), (.int .i64 0), (.int .i64 0), (.int .i64 0), (.int .i64 0), (.int .i64 0), (.int .i64 0), (.int .i64 0), (.str ⟨#[]⟩), (.str ⟨#[]⟩), (.str ⟨#[]⟩), (.str ⟨#[]⟩), (.int .i64 0), (.int .i64 0), (.str ⟨#[]⟩)] [(0, 2), (2, 16), (18, 1), (19, 5)], [.slot 23, .slot 24, .val (.int .i64 2), .slot 25], none⟩,
 ⟨(some 27), none, .call f_store_Store_Do, [.slot 22, .slot 26], none⟩,
 ⟨(some 6), none, .id, [.slot 27], none⟩])
 (.seq
 (.region [
 ⟨(some 28), none, .id, [.slot 3], none⟩,
 ⟨(some 29), none, .bin .eql, [.slot 28, .val (.int .i64 0)], none⟩,
 ⟨(some 30), none, .id, [.slot 29], none⟩,
 ⟨(some 31), (some (30, true)), .id, [.slot 4], none⟩,
 ⟨(some 32), (some (30, true)), .bin .eql, [.slot 31, .val (.int .i64 0)], none⟩,
 ⟨(some 33), none, .pick, [.slot 30, .slot 32, .val (.bool false)], none⟩,
 ⟨(some 34), none, .id, [.slot 33], none⟩,
 ⟨(some 35), (some (34, true)), .id, [.slot 6], none⟩,
 ⟨(some 36), (some (34, true)), .bin .eql, [.slot 35, .val (.int .i64 0)], none⟩,
 ⟨(some 37), none, .pick, [.slot 34, .slot 36, .val (.bool false)], none⟩,
 ⟨(some 38), none, .id, [.slot 37], none⟩,
 ⟨(some 39), (some (38, true)), .id, [.slot 5], none⟩,
 ⟨(some 40), none, .pick, [.slot 38, .slot 39, .val (.bool false)], none⟩,
 ⟨(some 41), none, .id, [.slot 40], none⟩,
 ⟨(some 42), (some (41, true)), .id, [.slot 2], none⟩,
 ⟨(some 43), (some (41, true)), .load 5 true, [.slot 1], none⟩,
 ⟨(some 44), (some (41, true)), .call f_store_Store_Has, [.slot 42, .slot 43], none⟩,
 ⟨(some 45), (some (41, true)), .un .not, [.slot 44], none⟩,
 ⟨(some 46), none, .pick, [.slot 41, .slot 45, .val (.bool false)], none⟩,
 ⟨(some 47), none, .id, [.slot 46], none⟩,
 ⟨(some 48), (some (47, true)), .id, [.slot 2], none⟩,
 ⟨(some 49), (some (47, true)), .call f_store_Store_Len, [.slot 48], none⟩,
 ⟨(some 50), (some (47, true)), .bin .eql, [.slot 49, .val (.int .i64 0)], none⟩,
 ⟨(some 51), none, .pick, [.slot 47, .slot 50, .val (.bool false)], none⟩,
 ⟨(some 52), none, .id, [.slot 51], none⟩,
 ⟨(some 53), (some (52, true)), .id, [.slot 2], none⟩,
 ⟨(some 54), (some (52, true)), .build [(.int .i64 0), (.int .i64 0), (.int .i64 0), (.int .i64 0), (.int .i64 0), (.int .i64 0), (.int .i64 0), (.int .i64 0), (.int .i64 0), (.int .i64 0), (.int .i64 0), (.int .i64 0), (.int .i64 0), (.int .i64 0), (.int .i64 0), (.int .i64 0), (.int .i64 0), (.int .i64 0), (.int .i64 0), (.int .i64 0), (.str ⟨#[]⟩), (.str ⟨#[]⟩), (.str ⟨#[]⟩), (.str ⟨#[]⟩), (.int .i64 0), (.int .i64 0), (.str ⟨#[]⟩)] [], [], none⟩,
 ⟨(some 55), (some (52, true)), .call f_store_Store_Do, [.slot 53, .slot 54], none⟩,
 ⟨(some 56), (some (52, true)), .bin .eql, [.slot 55, .val (.int .i64 1)], none⟩,
 ⟨(some 57), none, .pick, [.slot 52, .slot 56, .val (.bool false)], none⟩,
 ⟨(some 58), none, .id, [.slot 57], none⟩,
 ⟨(some 59), (some (58, true)), .load 5 true, [.slot 1], none⟩,
 ⟨(some 60), (some (58, true)), .build [(.int .i64 0), (.str ⟨#[]⟩), (.str ⟨#[]⟩), (.str ⟨#[]⟩), (.str ⟨#[]⟩)] [(0, 1)], [.val (.int .i64 2)], none⟩,
 ⟨(some 61), (some (58, true)), .call f_store_Order, [.slot 59, .slot 60], none⟩,
 ⟨(some 62), (some (58, true)), .bin .eql, [.slot 61, .val (.int .i64 (-1))], none⟩,
 ⟨(some 63), none, .pick, [.slot 58, .slot 62, .val (.bool false)], none⟩,
 ⟨(some 64), none, .id, [.slot 63], none⟩,
 ⟨(some 65), (some (64, true)), .id, [.slot 2], none⟩,
 ⟨(some 66), (some (64, true)), .load 5 true, [.slot 1], none⟩,
 ⟨(some 67), (some (64, true)), .build [(.int .i64 0), (.int .i64 0)] [(1, 1)], [.val (.int .i64 1)], none⟩,
 ⟨(some 68), (some (64, true)), .build [(.int .i64 0), (.int .i64 0), (.int .i64 0), (.int .i64 0), (.str ⟨#[]⟩)] [(0, 2)], [.slot 67], none⟩,
 ⟨(some 69), (some (64, true)), .buildSl 5 1 (.agg [(.int .i64 0), (.int .i64 0), (.int .i64 0), (.int .i64 0), (.str ⟨#[]⟩)]) [0], [.slot 68], none⟩,
 ⟨(some 70), (some (64, true)), .build [(.int .i64 0), (.str ⟨#[]⟩), (.str ⟨#[]⟩), (.str ⟨#[]⟩), (.str ⟨#[]⟩), .nilsl] [(0, 5), (5, 1)], [.slot 66, .slot 69], none⟩,
 ⟨(some 71), (some (64, true)), .call f_store_Store_Put, [.slot 65, .slot 70], none⟩,
 ⟨(some 72), (some (64, true)), .bin .eql, [.slot 71, .val (.int .i64 0)], none⟩,
 ⟨(some 73), none, .pick, [.slot 64, .slot 72, .val (.bool false)], none⟩,
 ⟨(some 74), none, .id, [.slot 73], none⟩,
 ⟨(some 75), (some (74, true)), .id, [.slot 2], none⟩,
 ⟨(some 76), (some (74, true)), .load 5 true, [.slot 1], none⟩,
 ⟨(some 77), (some (74, true)), .call f_store_Store_Has, [.slot 75, .slot 76], none⟩,
 ⟨(some 78), none, .pick, [.slot 74, .slot 77, .val (.bool false)], none⟩,
 ⟨(some 0), none, .id, [.slot 78], none⟩])
 (.ret))))))))
def F_hedgerowlaw07_fixed : IFun := ⟨79, [.slot 0], b_hedgerowlaw07_fixed, 3, 2, nofn⟩
theorem c_hedgerowlaw07_fixed : cFun Tryz.prog [1048577, 2097171] 2 f_hedgerowlaw07_fixed = some F_hedgerowlaw07_fixed := by kernel_rfl

def L0_hedgerowlaw07_few : ICode :=
 .seq
 (.region [
 ⟨(some 8), none, .bin .lss, [.slot 7, .slot 6], none⟩])
 (.seq
 (.cond (.slot 8)
 (.skip)
 (.exit 0))
 (.seq
 (.block 1
 (.seq
 (.region [
 ⟨(some 9), none, .ixaddr 27, [.slot 5, .slot 7], none⟩,
 ⟨(some 10), none, .load 27 true, [.slot 9], none⟩,
 ⟨(some 4), none, .allocL [(.int .i64 0), (.int .i64 0), (.int .i64 0), (.int .i64 0), (.int .i64 0), (.int .i64 0), (.int .i64 0), (.int .i64 0), (.int .i64 0), (.int .i64 0), (.int .i64 0), (.int .i64 0), (.int .i64 0), (.int .i64 0), (.int .i64 0), (.int .i64 0), (.int .i64 0), (.int .i64 0), (.int .i64 0), (.int .i64 0), (.str ⟨#[]⟩), (.str ⟨#[]⟩), (.str ⟨#[]⟩), (.str ⟨#[]⟩), (.int .i64 0), (.int .i64 0), (.str ⟨#[]⟩)], [], none⟩,
 ⟨none, none, .store 27, [.slot 4, .slot 10], none⟩])
 (.seq
 (.region [
 ⟨(some 11), none, .load 27 true, [.slot 4], none⟩,
 ⟨(some 12), none, .call f_hedgerowref06_Short, [.slot 11], none⟩,
 ⟨(some 13), none, .un .not, [.slot 12], none⟩])
 (.cond (.slot 13)
 (.seq
 (.region [
 ⟨(some 2), none, .id, [.val (.bool false)], none⟩])
 (.ret))
 (.skip)))))
 (.region [
 ⟨(some 14), none, .bin .add, [.slot 7, .val (.int .i64 1)], none⟩,
 ⟨(some 7), none, .id, [.slot 14], none⟩])))
def b_hedgerowlaw07_few : ICode :=
 .seq
 (.region [
 ⟨(some 2), none, .id, [.val (.bool false)], none⟩])
 (.seq
 (.seq
 (.region [
 ⟨(some 5), none, .id, [.slot 0], none⟩,
 ⟨(some 6), none, .lensl, [.slot 5], none⟩,
 ⟨(some 7), none, .id, [.val (.int .i64 0)], none⟩])
 (.block 0
 (.loop L0_hedgerowlaw07_few)))
 (.seq
 (.region [
 ⟨(some 15), none, .id, [.slot 0], none⟩,
 ⟨(some 16), none, .lensl, [.slot 15], none⟩,
 ⟨(some 17), none, .bin .leq, [.slot 16, .val (.int .i64 60)], none⟩,
 ⟨(some 2), none, .id, [.slot 17], none⟩])
 (.ret)))
def F_hedgerowlaw07_few : IFun := ⟨18, [.slot 2], b_hedgerowlaw07_few, 3, 0, nofn⟩
theorem c_hedgerowlaw07_few : cFun Tryz.prog [1048580] 0 f_hedgerowlaw07_few = some F_hedgerowlaw07_few := by kernel_rfl

def L0_hedgerowref07_Causal : ICode :=
 .seq
 (.region [
 ⟨(some 32), none, .bin .lss, [.slot 31, .val (.int .i64 16)], none⟩])
 (.seq
 (.cond (.slot 32)
 (.skip)
 (.exit 2))
 (.seq
 (.block 3
 (.seq
 (.region [
 ⟨(some 33), none, .id, [.slot 31], none⟩,
 ⟨(some 9), none, .id, [.slot 33], none⟩])
 (.region [
 ⟨(some 34), none, .id, [.slot 8], none⟩,
 ⟨(some 35), none, .id, [.slot 34], none⟩,
 ⟨(some 36), (some (35, true)), .id, [.slot 9], none⟩,
 ⟨(some 37), (some (35, true)), .faddr 2, [.slot 7], none⟩,
 ⟨(some 38), (some (35, true)), .ixaddrA 16 1, [.slot 37, .slot 36], none⟩,
 ⟨(some 39), (some (35, true)), .load 1 false, [.slot 38], (some (.loc 7))⟩,
 ⟨(some 40), (some (35, true)), .id, [.slot 9], none⟩,
 ⟨(some 41), (some (35, true)), .ixaddrA 16 1, [.slot 5, .slot 40], none⟩,
 ⟨(some 42), (some (35, true)), .load 1 false, [.slot 41], (some (.loc 5))⟩,
 ⟨(some 43), (some (35, true)), .bin .leq, [.slot 39, .slot 42], none⟩,
 ⟨(some 44), none, .pick, [.slot 35, .slot 43, .val (.bool false)], none⟩,
 ⟨(some 8), none, .id, [.slot 44], none⟩])))
 (.region [
 ⟨(some 45), none, .bin .add, [.slot 31, .val (.int .i64 1)], none⟩,
 ⟨(some 31), none, .id, [.slot 45], none⟩])))
def L1_hedgerowref07_Causal : ICode :=
 .seq
 (.region [
 ⟨(some 13), none, .bin .lss, [.slot 12, .slot 11], none⟩])
 (.seq
 (.cond (.slot 13)
 (.skip)
 (.exit 0))
 (.seq
 (.block 1
 (.seq
 (.region [
 ⟨(some 14), none, .ixaddr 27, [.slot 10, .slot 12], none⟩,
 ⟨(some 15), none, .load 27 true, [.slot 14], none⟩,
 ⟨(some 7), none, .allocL [(.int .i64 0), (.int .i64 0), (.int .i64 0), (.int .i64 0), (.int .i64 0), (.int .i64 0), (.int .i64 0), (.int .i64 0), (.int .i64 0), (.int .i64 0), (.int .i64 0), (.int .i64 0), (.int .i64 0), (.int .i64 0), (.int .i64 0), (.int .i64 0), (.int .i64 0), (.int .i64 0), (.int .i64 0), (.int .i64 0), (.str ⟨#[]⟩), (.str ⟨#[]⟩), (.str ⟨#[]⟩), (.str ⟨#[]⟩), (.int .i64 0), (.int .i64 0), (.str ⟨#[]⟩)], [], none⟩,
 ⟨none, none, .store 27, [.slot 7, .slot 15], none⟩])
 (.seq
 (.seq
 (.region [
 ⟨(some 16), none, .load 27 true, [.slot 7], (some (.loc 7))⟩,
 ⟨(some 17), none, .call f_hedgerowref06_Right, [.slot 16], none⟩,
 ⟨(some 18), none, .un .not, [.slot 17], none⟩,
 ⟨(some 19), none, .id, [.slot 18], none⟩,
 ⟨(some 20), (some (19, false)), .faddr 0, [.slot 7], none⟩,
 ⟨(some 21), (some (19, false)), .faddr 0, [.slot 20], none⟩,
 ⟨(some 22), (some (19, false)), .load 1 false, [.slot 21], (some (.loc 7))⟩,
 ⟨(some 23), (some (19, false)), .ixaddrA 16 1, [.slot 5, .slot 22], none⟩,
 ⟨(some 24), (some (19, false)), .load 1 false, [.slot 23], (some (.loc 5))⟩,
 ⟨(some 25), (some (19, false)), .faddr 0, [.slot 7], none⟩,
 ⟨(some 26), (some (19, false)), .faddr 1, [.slot 25], none⟩,
 ⟨(some 27), (some (19, false)), .load 1 false, [.slot 26], (some (.loc 7))⟩,
 ⟨(some 28), (some (19, false)), .bin .sub, [.slot 27, .val (.int .i64 1)], none⟩,
 ⟨(some 29), (some (19, false)), .bin .neq, [.slot 24, .slot 28], none⟩,
 ⟨(some 30), none, .pick, [.slot 19, .val (.bool true), .slot 29], none⟩])
 (.cond (.slot 30)
 (.exit 1)
 (.skip)))
 (.seq
 (.region [
 ⟨(some 8), none, .id, [.val (.bool true)], none⟩])
 (.seq
 (.seq
 (.region [
 ⟨(some 31), none, .id, [.val (.int .i64 0)], none⟩])
 (.block 2
 (.loop L0_hedgerowref07_Causal)))
 (.seq
 (.region [
 ⟨(some 46), none, .id, [.slot 8], none⟩])
 (.cond (.slot 46)
 (.seq
 (.region [
 ⟨(some 47), none, .id, [.slot 4], none⟩,
 ⟨(some 48), none, .load 27 true, [.slot 7], none⟩,
 ⟨(some 49), none, .buildSl 27 1 (.agg [(.int .i64 0), (.int .i64 0), (.int .i64 0), (.int .i64 0), (.int .i64 0), (.int .i64 0), (.int .i64 0), (.int .i64 0), (.int .i64 0), (.int .i64 0), (.int .i64 0), (.int .i64 0), (.int .i64 0), (.int .i64 0), (.int .i64 0), (.int .i64 0), (.int .i64 0), (.int .i64 0), (.int .i64 0), (.int .i64 0), (.str ⟨#[]⟩), (.str ⟨#[]⟩), (.str ⟨#[]⟩), (.str ⟨#[]⟩), (.int .i64 0), (.int .i64 0), (.str ⟨#[]⟩)]) [0], [.slot 48], none⟩,
 ⟨(some 50), none, .append 38 27 256, [.slot 47, .slot 49], none⟩,
 ⟨(some 4), none, .id, [.slot 50], none⟩])
 (.region [
 ⟨(some 51), none, .faddr 0, [.slot 7], none⟩,
 ⟨(some 52), none, .faddr 0, [.slot 51], none⟩,
 ⟨(some 53), none, .load 1 false, [.slot 52], none⟩,
 ⟨(some 54), none, .faddr 0, [.slot 7], none⟩,
 ⟨(some 55), none, .faddr 1, [.slot 54], none⟩,
 ⟨(some 56), none, .load 1 false, [.slot 55], none⟩,
 ⟨(some 57), none, .ixaddrA 16 1, [.slot 5, .slot 53], none⟩,
 ⟨none, none, .store 1, [.slot 57, .slot 56], none⟩]))
 (.skip))))))))
 (.region [
 ⟨(some 58), none, .bin .add, [.slot 12, .val (.int .i64 1)], none⟩,
 ⟨(some 12), none, .id, [.slot 58], none⟩])))
def b_hedgerowref07_Causal : ICode :=
 .seq
 (.region [
 ⟨(some 2), none, .id, [.val .nilsl], none⟩,
 ⟨(some 3), none, .allocL [(.int .i64 0), (.int .i64 0), (.int .i64 0), (.int .i64 0), (.int .i64 0), (.int .i64 0), (.int .i64 0), (.int .i64 0), (.int .i64 0), (.int .i64 0), (.int .i64 0), (.int .i64 0), (.int .i64 0), (.int .i64 0), (.int .i64 0), (.int .i64 0)], [], none⟩])
 (.seq
 (.region [
 ⟨(some 4), none, .id, [.val .nilsl], none⟩])
 (.seq
 (.region [
 ⟨(some 5), none, .allocL [(.int .i64 0), (.int .i64 0), (.int .i64 0), (.int .i64 0), (.int .i64 0), (.int .i64 0), (.int .i64 0), (.int .i64 0), (.int .i64 0), (.int .i64 0), (.int .i64 0), (.int .i64 0), (.int .i64 0), (.int .i64 0), (.int .i64 0), (.int .i64 0)], [], none⟩])
 (.seq
 (.seq
 (.region [
 ⟨(some 10), none, .id, [.slot 0], none⟩,
 ⟨(some 11), none, .lensl, [.slot 10], none⟩,
 ⟨(some 12), none, .id, [.val (.int .i64 0)], none⟩])
 (.block 0
 (.loop L1_hedgerowref07_Causal)))
 (.seq
 (.region [
 ⟨(some 59), none, .id, [.slot 4], none⟩,
 ⟨(some 60), none, .load 16 true, [.slot 5], (some (.loc 5))⟩,
 ⟨(some 2), none, .id, [.slot 59], none⟩,
 ⟨none, none, .store 16, [.slot 3, .slot 60], (some (.loc 3))⟩])
 (.ret)))))
def F_hedgerowref07_Causal : IFun := ⟨61, [.slot 2, .cell 3 16 true], b_hedgerowref07_Causal, 3, 0, nofn⟩
theorem c_hedgerowref07_Causal : cFun Tryz.prog [1048579, 1048581, 1048583] 0 f_hedgerowref07_Causal = some F_hedgerowref07_Causal := by kernel_rfl

def b_store_New : ICode :=
 .seq
 (.region [
 ⟨(some 0), none, .id, [.val .nilptr], none⟩])
 (.seq
 (.region [
 ⟨(some 1), none, .mkmap true [(.int .i64), .str, .str, .str, .str], [], none⟩,
 ⟨(some 2), none, .build [.nilmap] [(0, 1)], [.slot 1], none⟩,
 ⟨(some 3), none, .boxH 75, [.slot 2], none⟩,
 ⟨(some 0), none, .id, [.slot 3], none⟩])
 (.ret))
def F_store_New : IFun := ⟨4, [.slot 0], b_store_New, 3, 0, nofn⟩
theorem c_store_New : cFun Tryz.prog [3] 0 f_store_New = some F_store_New := by kernel_rfl

def b_store_Store_Do : ICode :=
 .seq
 (.region [
 ⟨(some 3), none, .boxH 38, [.slot 1], none⟩,
 ⟨(some 4), none, .id, [.val (.int .i64 0)], none⟩])
 (.seq
 (.seq
 (.region [
 ⟨(some 9), none, .id, [.slot 0], none⟩,
 ⟨(some 10), none, .eq1 false .ptr, [.slot 9, .val .nilptr], none⟩,
 ⟨(some 11), none, .id, [.slot 10], none⟩,
 ⟨(some 12), (some (11, false)), .load 27 true, [.slot 3], none⟩,
 ⟨(some 13), (some (11, false)), .call f_event_Right, [.slot 12], none⟩,
 ⟨(some 14), (some (11, false)), .bin .neq, [.slot 13, .val (.int .i64 0)], none⟩,
 ⟨(some 15), none, .pick, [.slot 11, .val (.bool true), .slot 14], none⟩])
 (.cond (.slot 15)
 (.seq
 (.region [
 ⟨(some 4), none, .id, [.val (.int .i64 1)], none⟩])
 (.ret))
 (.skip)))
 (.seq
 (.region [
 ⟨(some 16), none, .id, [.slot 0], none⟩,
 ⟨(some 17), none, .nilchk, [.slot 16], none⟩,
 ⟨(some 18), none, .faddr 0, [.slot 17], none⟩,
 ⟨(some 19), none, .load 1 false, [.slot 18], (some (.heap))⟩,
 ⟨(some 20), none, .faddr 19, [.slot 3], none⟩,
 ⟨(some 21), none, .load 5 true, [.slot 20], (some (.heap))⟩,
 ⟨(some 22), none, .mlook true [(.int .i64), .str, .str, .str, .str] .nilsl false, [.slot 19, .slot 21], none⟩,
 ⟨(some 5), none, .freeze, [.slot 22], none⟩])
 (.seq
 (.seq
 (.region [
 ⟨(some 23), none, .faddr 18, [.slot 3], none⟩,
 ⟨(some 24), none, .load 1 false, [.slot 23], none⟩,
 ⟨(some 25), none, .bin .neq, [.slot 24, .val (.int .i64 1)], none⟩])
 (.cond (.slot 25)
 (.region [
 ⟨(some 26), none, .id, [.slot 5], none⟩,
 ⟨(some 27), none, .call f_slices_Clonestore_Entrystore_Entry, [.slot 26], none⟩,
 ⟨(some 28), none, .mkfunc f_store_Store_Do_1 0, [.slot 3], none⟩,
 ⟨(some 29), none, .call f_slices_DeleteFuncstore_Entrystore_Entry, [.slot 27, .slot 28], none⟩,
 ⟨(some 5), none, .freeze, [.slot 29], none⟩])
 (.skip)))
 (.seq
 (.seq
 (.region [
 ⟨(some 30), none, .faddr 18, [.slot 3], none⟩,
 ⟨(some 31), none, .load 1 false, [.slot 30], none⟩,
 ⟨(some 32), none, .bin .eql, [.slot 31, .val (.int .i64 1)], none⟩,
 ⟨(some 33), none, .id, [.slot 32], none⟩,
 ⟨(some 34), (some (33, false)), .faddr 18, [.slot 3], none⟩,
 ⟨(some 35), (some (33, false)), .load 1 false, [.slot 34], none⟩,
 ⟨(some 36), (some (33, false)), .bin .eql, [.slot 35, .val (.int .i64 3)], none⟩,
 ⟨(some 37), none, .pick, [.slot 33, .val (.bool true), .slot 36], none⟩])
 (.cond (.slot 37)
 (.seq
 (.region [
 ⟨(some 38), none, .faddr 0, [.slot 3], none⟩,
 ⟨(some 39), none, .load 2 true, [.slot 38], none⟩,
 ⟨(some 40), none, .faddr 24, [.slot 3], none⟩,
 ⟨(some 41), none, .load 3 true, [.slot 40], none⟩,
 ⟨(some 42), none, .build [(.int .i64 0), (.int .i64 0), (.int .i64 0), (.int .i64 0), (.str ⟨#[]⟩)] [(0, 2), (2, 3)], [.slot 39, .slot 41], none⟩,
 ⟨(some 6), none, .allocL [(.int .i64 0), (.int .i64 0), (.int .i64 0), (.int .i64 0), (.str ⟨#[]⟩)], [], none⟩,
 ⟨none, none, .store 5, [.slot 6, .slot 42], none⟩])
 (.seq
 (.region [
 ⟨(some 44), none, .id, [.slot 5], none⟩,
 ⟨(some 45), none, .load 5 true, [.slot 6], none⟩,
 ⟨(some 46), none, .call f_slices_BinarySearchFuncstore_Entrystore_Entrystore_Entry, [.slot 44, .slot 45, .val (.func 37 [] [])], none⟩,
 ⟨(some 43), none, .id, [.slot 46], none⟩,
 ⟨(some 47), none, .extract 0, [.slot 43], none⟩,
 ⟨(some 48), none, .extract 1, [.slot 43], none⟩,
 ⟨(some 7), none, .id, [.slot 47], none⟩,
 ⟨(some 8), none, .id, [.slot 48], none⟩])
 (.region [
 ⟨(some 49), none, .id, [.slot 5], none⟩,
 ⟨(some 50), none, .call f_slices_Clonestore_Entrystore_Entry, [.slot 49], none⟩,
 ⟨(some 51), none, .id, [.slot 7], none⟩,
 ⟨(some 52), none, .load 5 true, [.slot 6], (some (.loc 6))⟩,
 ⟨(some 53), none, .buildSl 5 1 (.agg [(.int .i64 0), (.int .i64 0), (.int .i64 0), (.int .i64 0), (.str ⟨#[]⟩)]) [0], [.slot 52], none⟩,
 ⟨(some 54), none, .call f_slices_Insertstore_Entrystore_Entry, [.slot 50, .slot 51, .slot 53], none⟩,
 ⟨(some 5), none, .freeze, [.slot 54], none⟩])))
 (.skip)))
 (.seq
 (.region [
 ⟨(some 55), none, .id, [.slot 0], none⟩,
 ⟨(some 56), none, .faddr 19, [.slot 3], none⟩,
 ⟨(some 57), none, .load 5 true, [.slot 56], none⟩,
 ⟨(some 58), none, .id, [.slot 5], none⟩,
 ⟨(some 59), none, .call f_store_Store_lay, [.slot 55, .slot 57, .slot 58], none⟩])
 (.seq
 (.region [
 ⟨(some 4), none, .id, [.val (.int .i64 0)], none⟩])
 (.ret)))))))
def F_store_Store_Do : IFun := ⟨60, [.slot 4], b_store_Store_Do, 3, 0, nofn⟩
theorem c_store_Store_Do : cFun Tryz.prog [3, 1048582, 8388613] 0 f_store_Store_Do = some F_store_Store_Do := by kernel_rfl

def L0_store_Store_All : ICode :=
 .seq
 (.region [
 ⟨(some 12), none, .trap, [], none⟩,
 ⟨(some 13), none, .extract 0, [.slot 12], none⟩])
 (.seq
 (.cond (.slot 13)
 (.skip)
 (.exit 0))
 (.block 1
 (.seq
 (.region [
 ⟨(some 14), none, .trap, [], none⟩,
 ⟨(some 15), none, .extract 0, [.slot 14], none⟩,
 ⟨(some 4), none, .allocL [(.int .i64 0), (.str ⟨#[]⟩), (.str ⟨#[]⟩), (.str ⟨#[]⟩), (.str ⟨#[]⟩)], [], none⟩,
 ⟨none, none, .store 5, [.slot 4, .slot 15], none⟩])
 (.region [
 ⟨(some 16), none, .id, [.slot 3], none⟩,
 ⟨(some 17), none, .load 5 true, [.slot 4], (some (.loc 4))⟩,
 ⟨(some 18), none, .id, [.slot 0], none⟩,
 ⟨(some 19), none, .load 5 true, [.slot 4], (some (.loc 4))⟩,
 ⟨(some 20), none, .call f_store_Store_Entries, [.slot 18, .slot 19], none⟩,
 ⟨(some 21), none, .build [(.int .i64 0), (.str ⟨#[]⟩), (.str ⟨#[]⟩), (.str ⟨#[]⟩), (.str ⟨#[]⟩), .nilsl] [(0, 5), (5, 1)], [.slot 17, .slot 20], none⟩,
 ⟨(some 22), none, .buildSl 6 1 (.agg [(.int .i64 0), (.str ⟨#[]⟩), (.str ⟨#[]⟩), (.str ⟨#[]⟩), (.str ⟨#[]⟩), .nilsl]) [0], [.slot 21], none⟩,
 ⟨(some 23), none, .appendN 51 6 96, [.slot 16, .slot 22], none⟩,
 ⟨(some 3), none, .id, [.slot 23], none⟩]))))
def b_store_Store_All : ICode :=
 .seq
 (.region [
 ⟨(some 2), none, .id, [.val .nilsl], none⟩])
 (.seq
 (.seq
 (.region [
 ⟨(some 5), none, .id, [.slot 0], none⟩,
 ⟨(some 6), none, .eq1 false .ptr, [.slot 5, .val .nilptr], none⟩])
 (.cond (.slot 6)
 (.seq
 (.region [
 ⟨(some 2), none, .id, [.val .nilsl], none⟩])
 (.ret))
 (.skip)))
 (.seq
 (.region [
 ⟨(some 3), none, .id, [.val .nilsl], none⟩])
 (.seq
 (.seq
 (.region [
 ⟨(some 7), none, .id, [.slot 0], none⟩,
 ⟨(some 8), none, .nilchk, [.slot 7], none⟩,
 ⟨(some 9), none, .faddr 0, [.slot 8], none⟩,
 ⟨(some 10), none, .load 1 false, [.slot 9], none⟩,
 ⟨(some 11), none, .trap, [], none⟩])
 (.block 0
 (.loop L0_store_Store_All)))
 (.seq
 (.region [
 ⟨(some 24), none, .id, [.slot 3], none⟩,
 ⟨(some 25), none, .call f_slices_SortFuncstore_Itemstore_Item, [.slot 24, .val (.func 41 [] [])], none⟩])
 (.seq
 (.region [
 ⟨(some 26), none, .id, [.slot 3], none⟩,
 ⟨(some 2), none, .id, [.slot 26], none⟩])
 (.ret))))))
def F_store_Store_All : IFun := ⟨27, [.slot 2], b_store_Store_All, 3, 0, nofn⟩
theorem c_store_Store_All : cFun Tryz.prog [1048580, 16777239] 0 f_store_Store_All = some F_store_Store_All := by kernel_rfl

def L0_hedgerowref07_Live : ICode :=
 .seq
 (.region [
 ⟨(some 34), none, .bin .lss, [.slot 33, .slot 32], none⟩])
 (.seq
 (.cond (.slot 34)
 (.skip)
 (.exit 2))
 (.seq
 (.block 3
 (.seq
 (.region [
 ⟨(some 35), none, .ixaddr 27, [.slot 31, .slot 33], none⟩,
 ⟨(some 36), none, .load 27 true, [.slot 35], none⟩,
 ⟨(some 10), none, .allocL [(.int .i64 0), (.int .i64 0), (.int .i64 0), (.int .i64 0), (.int .i64 0), (.int .i64 0), (.int .i64 0), (.int .i64 0), (.int .i64 0), (.int .i64 0), (.int .i64 0), (.int .i64 0), (.int .i64 0), (.int .i64 0), (.int .i64 0), (.int .i64 0), (.int .i64 0), (.int .i64 0), (.int .i64 0), (.int .i64 0), (.str ⟨#[]⟩), (.str ⟨#[]⟩), (.str ⟨#[]⟩), (.str ⟨#[]⟩), (.int .i64 0), (.int .i64 0), (.str ⟨#[]⟩)], [], none⟩,
 ⟨none, none, .store 27, [.slot 10, .slot 36], none⟩])
 (.seq
 (.region [
 ⟨(some 37), none, .faddr 19, [.slot 10], none⟩,
 ⟨(some 38), none, .load 5 true, [.slot 37], none⟩,
 ⟨(some 39), none, .load 5 true, [.slot 3], none⟩,
 ⟨(some 40), none, .eqv false [(.int .i64), .str, .str, .str, .str], [.slot 38, .slot 39], none⟩,
 ⟨(some 41), none, .id, [.slot 40], none⟩,
 ⟨(some 42), (some (41, true)), .faddr 18, [.slot 10], none⟩,
 ⟨(some 43), (some (41, true)), .load 1 false, [.slot 42], none⟩,
 ⟨(some 44), (some (41, true)), .bin .neq, [.slot 43, .val (.int .i64 1)], none⟩,
 ⟨(some 45), none, .pick, [.slot 41, .slot 44, .val (.bool false)], none⟩,
 ⟨(some 46), none, .id, [.slot 45], none⟩,
 ⟨(some 47), (some (46, true)), .faddr 0, [.slot 10], none⟩,
 ⟨(some 48), (some (46, true)), .load 2 true, [.slot 47], none⟩,
 ⟨(some 49), (some (46, true)), .faddr 0, [.slot 7], none⟩,
 ⟨(some 50), (some (46, true)), .load 2 true, [.slot 49], none⟩,
 ⟨(some 51), (some (46, true)), .eqv true [(.int .i64), (.int .i64)], [.slot 48, .slot 50], none⟩,
 ⟨(some 52), none, .pick, [.slot 46, .slot 51, .val (.bool false)], none⟩,
 ⟨(some 53), none, .id, [.slot 52], none⟩,
 ⟨(some 54), (some (53, true)), .faddr 2, [.slot 10], none⟩,
 ⟨(some 55), (some (53, true)), .load 16 true, [.slot 54], none⟩,
 ⟨(some 56), (some (53, true)), .faddr 0, [.slot 7], none⟩,
 ⟨(some 57), (some (53, true)), .load 2 true, [.slot 56], none⟩,
 ⟨(some 58), (some (53, true)), .call f_hedgerowref07_knows, [.slot 55, .slot 57], none⟩,
 ⟨(some 59), none, .pick, [.slot 53, .slot 58, .val (.bool false)], none⟩])
 (.cond (.slot 59)
 (.region [
 ⟨(some 8), none, .id, [.val (.bool false)], none⟩])
 (.skip)))))
 (.region [
 ⟨(some 60), none, .bin .add, [.slot 33, .val (.int .i64 1)], none⟩,
 ⟨(some 33), none, .id, [.slot 60], none⟩])))
def L1_hedgerowref07_Live : ICode :=
 .seq
 (.region [
 ⟨(some 14), none, .bin .lss, [.slot 13, .slot 12], none⟩])
 (.seq
 (.cond (.slot 14)
 (.skip)
 (.exit 0))
 (.seq
 (.block 1
 (.seq
 (.region [
 ⟨(some 15), none, .ixaddr 27, [.slot 11, .slot 13], none⟩,
 ⟨(some 16), none, .load 27 true, [.slot 15], none⟩,
 ⟨(some 7), none, .allocL [(.int .i64 0), (.int .i64 0), (.int .i64 0), (.int .i64 0), (.int .i64 0), (.int .i64 0), (.int .i64 0), (.int .i64 0), (.int .i64 0), (.int .i64 0), (.int .i64 0), (.int .i64 0), (.int .i64 0), (.int .i64 0), (.int .i64 0), (.int .i64 0), (.int .i64 0), (.int .i64 0), (.int .i64 0), (.int .i64 0), (.str ⟨#[]⟩), (.str ⟨#[]⟩), (.str ⟨#[]⟩), (.str ⟨#[]⟩), (.int .i64 0), (.int .i64 0), (.str ⟨#[]⟩)], [], none⟩,
 ⟨none, none, .store 27, [.slot 7, .slot 16], none⟩])
 (.seq
 (.seq
 (.region [
 ⟨(some 17), none, .faddr 19, [.slot 7], none⟩,
 ⟨(some 18), none, .load 5 true, [.slot 17], none⟩,
 ⟨(some 19), none, .load 5 true, [.slot 3], none⟩,
 ⟨(some 20), none, .eqv true [(.int .i64), .str, .str, .str, .str], [.slot 18, .slot 19], none⟩,
 ⟨(some 21), none, .id, [.slot 20], none⟩,
 ⟨(some 22), (some (21, false)), .faddr 18, [.slot 7], none⟩,
 ⟨(some 23), (some (21, false)), .load 1 false, [.slot 22], none⟩,
 ⟨(some 24), (some (21, false)), .bin .neq, [.slot 23, .val (.int .i64 1)], none⟩,
 ⟨(some 25), (some (21, false)), .id, [.slot 24], none⟩,
 ⟨(some 26), (some (25, true)), .faddr 18, [.slot 7], none⟩,
 ⟨(some 27), (some (25, true)), .load 1 false, [.slot 26], none⟩,
 ⟨(some 28), (some (25, true)), .bin .neq, [.slot 27, .val (.int .i64 3)], none⟩,
 ⟨(some 29), (some (21, false)), .pick, [.slot 25, .slot 28, .val (.bool false)], none⟩,
 ⟨(some 30), none, .pick, [.slot 21, .val (.bool true), .slot 29], none⟩])
 (.cond (.slot 30)
 (.exit 1)
 (.skip)))
 (.seq
 (.region [
 ⟨(some 8), none, .id, [.val (.bool true)], none⟩])
 (.seq
 (.seq
 (.region [
 ⟨(some 31), none, .id, [.slot 0], none⟩,
 ⟨(some 32), none, .lensl, [.slot 31], none⟩,
 ⟨(some 33), none, .id, [.val (.int .i64 0)], none⟩])
 (.block 2
 (.loop L0_hedgerowref07_Live)))
 (.seq
 (.region [
 ⟨(some 61), none, .id, [.slot 8], none⟩])
 (.cond (.slot 61)
 (.region [
 ⟨(some 62), none, .id, [.slot 5], none⟩,
 ⟨(some 63), none, .load 27 true, [.slot 7], none⟩,
 ⟨(some 64), none, .buildSl 27 1 (.agg [(.int .i64 0), (.int .i64 0), (.int .i64 0), (.int .i64 0), (.int .i64 0), (.int .i64 0), (.int .i64 0), (.int .i64 0), (.int .i64 0), (.int .i64 0), (.int .i64 0), (.int .i64 0), (.int .i64 0), (.int .i64 0), (.int .i64 0), (.int .i64 0), (.int .i64 0), (.int .i64 0), (.int .i64 0), (.int .i64 0), (.str ⟨#[]⟩), (.str ⟨#[]⟩), (.str ⟨#[]⟩), (.str ⟨#[]⟩), (.int .i64 0), (.int .i64 0), (.str ⟨#[]⟩)]) [0], [.slot 63], none⟩,
 ⟨(some 65), none, .append 38 27 256, [.slot 62, .slot 64], none⟩,
 ⟨(some 5), none, .id, [.slot 65], none⟩])
 (.skip))))))))
 (.region [
 ⟨(some 66), none, .bin .add, [.slot 13, .val (.int .i64 1)], none⟩,
 ⟨(some 13), none, .id, [.slot 66], none⟩])))
def b_hedgerowref07_Live : ICode :=
 .seq
 (.region [
 ⟨(some 3), none, .boxL, [.slot 1], none⟩,
 ⟨(some 4), none, .id, [.val .nilsl], none⟩])
 (.seq
 (.region [
 ⟨(some 5), none, .id, [.val .nilsl], none⟩])
 (.seq
 (.seq
 (.region [
 ⟨(some 11), none, .id, [.slot 0], none⟩,
 ⟨(some 12), none, .lensl, [.slot 11], none⟩,
 ⟨(some 13), none, .id, [.val (.int .i64 0)], none⟩])
 (.block 0
 (.loop L1_hedgerowref07_Live)))
 (.seq
 (.region [
 ⟨(some 67), none, .id, [.slot 5], none⟩,
 ⟨(some 4), none, .id, [.slot 67], none⟩])
 (.ret))))
def F_hedgerowref07_Live : IFun := ⟨68, [.slot 4], b_hedgerowref07_Live, 3, 0, nofn⟩
theorem c_hedgerowref07_Live : cFun Tryz.prog [1048579, 1048583, 1048586] 0 f_hedgerowref07_Live = some F_hedgerowref07_Live := by kernel_rfl

def b_store_Store_Entries : ICode :=
 .seq
 (.region [
 ⟨(some 3), none, .boxL, [.slot 1], none⟩,
 ⟨(some 4), none, .freeze, [.val .nilsl], none⟩])
 (.seq
 (.seq
 (.region [
 ⟨(some 5), none, .id, [.slot 0], none⟩,
 ⟨(some 6), none, .eq1 false .ptr, [.slot 5, .val .nilptr], none⟩])
 (.cond (.slot 6)
 (.seq
 (.region [
 ⟨(some 4), none, .freeze, [.val .nilsl], none⟩])
 (.ret))
 (.skip)))
 (.seq
 (.region [
 ⟨(some 7), none, .id, [.slot 0], none⟩,
 ⟨(some 8), none, .nilchk, [.slot 7], none⟩,
 ⟨(some 9), none, .faddr 0, [.slot 8], none⟩,
 ⟨(some 10), none, .load 1 false, [.slot 9], (some (.heap))⟩,
 ⟨(some 11), none, .load 5 true, [.slot 3], (some (.loc 3))⟩,
 ⟨(some 12), none, .mlook true [(.int .i64), .str, .str, .str, .str] .nilsl false, [.slot 10, .slot 11], none⟩,
 ⟨(some 13), none, .call f_slices_Clonestore_Entrystore_Entry, [.slot 12], none⟩,
 ⟨(some 4), none, .freeze, [.slot 13], none⟩])
 (.ret)))
def F_store_Store_Entries : IFun := ⟨14, [.slot 4], b_store_Store_Entries, 3, 0, nofn⟩
theorem c_store_Store_Entries : cFun Tryz.prog [1048579, 8388612] 0 f_store_Store_Entries = some F_store_Store_Entries := by kernel_rfl

def b_store_Store_Has : ICode :=
 .seq
 (.region [
 ⟨(some 3), none, .boxL, [.slot 1], none⟩,
 ⟨(some 4), none, .id, [.val (.bool false)], none⟩])
 (.seq
 (.region [
 ⟨(some 5), none, .id, [.slot 0], none⟩,
 ⟨(some 6), none, .eq1 true .ptr, [.slot 5, .val .nilptr], none⟩,
 ⟨(some 7), none, .id, [.slot 6], none⟩,
 ⟨(some 8), (some (7, true)), .id, [.slot 0], none⟩,
 ⟨(some 9), (some (7, true)), .nilchk, [.slot 8], none⟩,
 ⟨(some 10), (some (7, true)), .faddr 0, [.slot 9], none⟩,
 ⟨(some 11), (some (7, true)), .load 1 false, [.slot 10], (some (.heap))⟩,
 ⟨(some 12), (some (7, true)), .load 5 true, [.slot 3], (some (.loc 3))⟩,
 ⟨(some 13), (some (7, true)), .mlook true [(.int .i64), .str, .str, .str, .str] .nilsl false, [.slot 11, .slot 12], none⟩,
 ⟨(some 14), (some (7, true)), .lensl, [.slot 13], none⟩,
 ⟨(some 15), (some (7, true)), .bin .gtr, [.slot 14, .val (.int .i64 0)], none⟩,
 ⟨(some 16), none, .pick, [.slot 7, .slot 15, .val (.bool false)], none⟩,
 ⟨(some 4), none, .id, [.slot 16], none⟩])
 (.ret))
def F_store_Store_Has : IFun := ⟨17, [.slot 4], b_store_Store_Has, 3, 0, nofn⟩
theorem c_store_Store_Has : cFun Tryz.prog [1048579] 0 f_store_Store_Has = some F_store_Store_Has := by kernel_rfl

def F_store_Store_Len : IFun := ⟨8, [], .trap, 0, 15, lenFn⟩

def L0_store_Store_Put : ICode :=
 .seq
 (.region [
 ⟨(some 19), none, .bin .lss, [.slot 18, .slot 17], none⟩])
 (.seq
 (.cond (.slot 19)
 (.skip)
 (.exit 0))
 (.seq
 (.block 1
 (.seq
 (.region [
 ⟨(some 20), none, .id, [.slot 18], none⟩,
 ⟨(some 21), none, .ixaddr 5, [.slot 16, .slot 18], none⟩,
 ⟨(some 22), none, .load 5 true, [.slot 21], none⟩,
 ⟨(some 6), none, .allocL [(.int .i64 0), (.int .i64 0), (.int .i64 0), (.int .i64 0), (.str ⟨#[]⟩)], [], none⟩,
 ⟨(some 5), none, .id, [.slot 20], none⟩,
 ⟨none, none, .store 5, [.slot 6, .slot 22], none⟩])
 (.seq
 (.region [
 ⟨(some 23), none, .faddr 0, [.slot 3], none⟩,
 ⟨(some 24), none, .load 5 true, [.slot 23], (some (.loc 3))⟩,
 ⟨(some 25), none, .load 5 true, [.slot 6], (some (.loc 6))⟩,
 ⟨(some 26), none, .call f_store_entry, [.slot 24, .slot 25], none⟩,
 ⟨(some 27), none, .un .not, [.slot 26], none⟩,
 ⟨(some 28), none, .id, [.slot 27], none⟩,
 ⟨(some 29), (some (28, false)), .id, [.slot 5], none⟩,
 ⟨(some 30), (some (28, false)), .bin .gtr, [.slot 29, .val (.int .i64 0)], none⟩,
 ⟨(some 31), (some (28, false)), .id, [.slot 30], none⟩,
 ⟨(some 32), (some (31, true)), .faddr 5, [.slot 3], none⟩,
 ⟨(some 33), (some (31, true)), .load 1 false, [.slot 32], (some (.loc 3))⟩,
 ⟨(some 34), (some (31, true)), .id, [.slot 5], none⟩,
 ⟨(some 35), (some (31, true)), .bin .sub, [.slot 34, .val (.int .i64 1)], none⟩,
 ⟨(some 36), (some (31, true)), .ixaddr 5, [.slot 33, .slot 35], none⟩,
 ⟨(some 37), (some (31, true)), .load 5 true, [.slot 36], (some (.el))⟩,
 ⟨(some 38), (some (31, true)), .load 5 true, [.slot 6], (some (.loc 6))⟩,
 ⟨(some 39), (some (31, true)), .call f_store_byDot, [.slot 37, .slot 38], none⟩,
 ⟨(some 40), (some (31, true)), .bin .geq, [.slot 39, .val (.int .i64 0)], none⟩,
 ⟨(some 41), (some (28, false)), .pick, [.slot 31, .slot 40, .val (.bool false)], none⟩,
 ⟨(some 42), none, .pick, [.slot 28, .val (.bool true), .slot 41], none⟩])
 (.cond (.slot 42)
 (.seq
 (.region [
 ⟨(some 4), none, .id, [.val (.int .i64 1)], none⟩])
 (.ret))
 (.skip)))))
 (.region [
 ⟨(some 43), none, .bin .add, [.slot 18, .val (.int .i64 1)], none⟩,
 ⟨(some 18), none, .id, [.slot 43], none⟩])))
def b_store_Store_Put : ICode :=
 .seq
 (.region [
 ⟨(some 3), none, .boxL, [.slot 1], none⟩,
 ⟨(some 4), none, .id, [.val (.int .i64 0)], none⟩])
 (.seq
 (.seq
 (.region [
 ⟨(some 7), none, .id, [.slot 0], none⟩,
 ⟨(some 8), none, .eq1 false .ptr, [.slot 7, .val .nilptr], none⟩,
 ⟨(some 9), none, .id, [.slot 8], none⟩,
 ⟨(some 10), (some (9, false)), .faddr 0, [.slot 3], none⟩,
 ⟨(some 11), (some (9, false)), .load 5 true, [.slot 10], none⟩,
 ⟨(some 12), (some (9, false)), .call f_value_Elem, [.slot 11], none⟩,
 ⟨(some 13), (some (9, false)), .un .not, [.slot 12], none⟩,
 ⟨(some 14), none, .pick, [.slot 9, .val (.bool true), .slot 13], none⟩])
 (.cond (.slot 14)
 (.seq
 (.region [
 ⟨(some 4), none, .id, [.val (.int .i64 1)], none⟩])
 (.ret))
 (.skip)))
 (.seq
 (.seq
 (.region [
 ⟨(some 15), none, .faddr 5, [.slot 3], none⟩,
 ⟨(some 16), none, .load 1 false, [.slot 15], none⟩,
 ⟨(some 17), none, .lensl, [.slot 16], none⟩,
 ⟨(some 18), none, .id, [.val (.int .i64 0)], none⟩])
 (.block 0
 (.loop L0_store_Store_Put)))
 (.seq
 (.region [
 ⟨(some 44), none, .id, [.slot 0], none⟩,
 ⟨(some 45), none, .faddr 0, [.slot 3], none⟩,
 ⟨(some 46), none, .load 5 true, [.slot 45], (some (.loc 3))⟩,
 ⟨(some 47), none, .faddr 5, [.slot 3], none⟩,
 ⟨(some 48), none, .load 1 false, [.slot 47], (some (.loc 3))⟩,
 ⟨(some 49), none, .call f_slices_Clonestore_Entrystore_Entry, [.slot 48], none⟩,
 ⟨(some 50), none, .call f_store_Store_lay, [.slot 44, .slot 46, .slot 49], none⟩])
 (.seq
 (.region [
 ⟨(some 4), none, .id, [.val (.int .i64 0)], none⟩])
 (.ret)))))
def F_store_Store_Put : IFun := ⟨51, [.slot 4], b_store_Store_Put, 3, 0, nofn⟩
theorem c_store_Store_Put : cFun Tryz.prog [1048579, 1048582] 0 f_store_Store_Put = some F_store_Store_Put := by kernel_rfl

def L0_store_Store_Values : ICode :=
 .seq
 (.region [
 ⟨(some 13), none, .bin .lss, [.slot 12, .slot 11], none⟩])
 (.seq
 (.cond (.slot 13)
 (.skip)
 (.exit 0))
 (.seq
 (.block 1
 (.seq
 (.region [
 ⟨(some 14), none, .ixaddr 5, [.slot 10, .slot 12], none⟩,
 ⟨(some 15), none, .load 5 true, [.slot 14], none⟩,
 ⟨(some 7), none, .allocL [(.int .i64 0), (.int .i64 0), (.int .i64 0), (.int .i64 0), (.str ⟨#[]⟩)], [], none⟩,
 ⟨none, none, .store 5, [.slot 7, .slot 15], none⟩])
 (.region [
 ⟨(some 16), none, .id, [.slot 5], none⟩,
 ⟨(some 17), none, .faddr 2, [.slot 7], none⟩,
 ⟨(some 18), none, .load 3 true, [.slot 17], none⟩,
 ⟨(some 19), none, .buildSl 3 1 (.agg [(.int .i64 0), (.int .i64 0), (.str ⟨#[]⟩)]) [0], [.slot 18], none⟩,
 ⟨(some 20), none, .appendN 36 3 32, [.slot 16, .slot 19], none⟩,
 ⟨(some 5), none, .id, [.slot 20], none⟩])))
 (.region [
 ⟨(some 21), none, .bin .add, [.slot 12, .val (.int .i64 1)], none⟩,
 ⟨(some 12), none, .id, [.slot 21], none⟩])))
def b_store_Store_Values : ICode :=
 .seq
 (.region [
 ⟨(some 3), none, .boxL, [.slot 1], none⟩,
 ⟨(some 4), none, .id, [.val .nilsl], none⟩])
 (.seq
 (.region [
 ⟨(some 5), none, .id, [.val .nilsl], none⟩])
 (.seq
 (.seq
 (.region [
 ⟨(some 8), none, .id, [.slot 0], none⟩,
 ⟨(some 9), none, .load 5 true, [.slot 3], none⟩,
 ⟨(some 10), none, .call f_store_Store_Entries, [.slot 8, .slot 9], none⟩,
 ⟨(some 11), none, .lensl, [.slot 10], none⟩,
 ⟨(some 12), none, .id, [.val (.int .i64 0)], none⟩])
 (.block 0
 (.loop L0_store_Store_Values)))
 (.seq
 (.region [
 ⟨(some 22), none, .id, [.slot 5], none⟩,
 ⟨(some 23), none, .call f_slices_SortFuncapi_Valueapi_Value, [.slot 22, .val (.func 48 [] [])], none⟩])
 (.seq
 (.region [
 ⟨(some 24), none, .id, [.slot 5], none⟩,
 ⟨(some 25), none, .call f_slices_Compactapi_Valueapi_Value, [.slot 24], none⟩,
 ⟨(some 4), none, .id, [.slot 25], none⟩])
 (.ret)))))
def F_store_Store_Values : IFun := ⟨26, [.slot 4], b_store_Store_Values, 3, 0, nofn⟩
theorem c_store_Store_Values : cFun Tryz.prog [1048579, 1048583, 16777236] 0 f_store_Store_Values = some F_store_Store_Values := by kernel_rfl

def L0_hedgerowref01_Compare : ICode :=
 .seq
 (.seq
 (.region [
 ⟨(some 26), none, .id, [.slot 5], none⟩,
 ⟨(some 27), none, .faddr 2, [.slot 2], none⟩,
 ⟨(some 28), none, .load 1 false, [.slot 27], none⟩,
 ⟨(some 29), none, .lenstr, [.slot 28], none⟩,
 ⟨(some 30), none, .bin .lss, [.slot 26, .slot 29], none⟩,
 ⟨(some 31), none, .id, [.slot 30], none⟩,
 ⟨(some 32), (some (31, true)), .id, [.slot 5], none⟩,
 ⟨(some 33), (some (31, true)), .faddr 2, [.slot 3], none⟩,
 ⟨(some 34), (some (31, true)), .load 1 false, [.slot 33], none⟩,
 ⟨(some 35), (some (31, true)), .lenstr, [.slot 34], none⟩,
 ⟨(some 36), (some (31, true)), .bin .lss, [.slot 32, .slot 35], none⟩,
 ⟨(some 37), none, .pick, [.slot 31, .slot 36, .val (.bool false)], none⟩])
 (.cond (.slot 37)
 (.skip)
 (.exit 0)))
 (.seq
 (.block 1
 (.seq
 (.region [
 ⟨(some 40), none, .faddr 2, [.slot 2], none⟩,
 ⟨(some 41), none, .load 1 false, [.slot 40], (some (.loc 2))⟩,
 ⟨(some 42), none, .id, [.slot 5], none⟩,
 ⟨(some 43), none, .ixstr, [.slot 41, .slot 42], none⟩,
 ⟨(some 44), none, .faddr 2, [.slot 3], none⟩,
 ⟨(some 45), none, .load 1 false, [.slot 44], (some (.loc 3))⟩,
 ⟨(some 46), none, .id, [.slot 5], none⟩,
 ⟨(some 47), none, .ixstr, [.slot 45, .slot 46], none⟩,
 ⟨(some 48), none, .bin .neq, [.slot 43, .slot 47], none⟩])
 (.cond (.slot 48)
 (.seq
 (.seq
 (.region [
 ⟨(some 49), none, .faddr 2, [.slot 2], none⟩,
 ⟨(some 50), none, .load 1 false, [.slot 49], (some (.loc 2))⟩,
 ⟨(some 51), none, .id, [.slot 5], none⟩,
 ⟨(some 52), none, .ixstr, [.slot 50, .slot 51], none⟩,
 ⟨(some 53), none, .faddr 2, [.slot 3], none⟩,
 ⟨(some 54), none, .load 1 false, [.slot 53], (some (.loc 3))⟩,
 ⟨(some 55), none, .id, [.slot 5], none⟩,
 ⟨(some 56), none, .ixstr, [.slot 54, .slot 55], none⟩,
 ⟨(some 57), none, .bin .lss, [.slot 52, .slot 56], none⟩])
 (.cond (.slot 57)
 (.seq
 (.region [
 ⟨(some 4), none, .id, [.val (.int .i64 (-1))], none⟩])
 (.ret))
 (.skip)))
 (.seq
 (.region [
 ⟨(some 4), none, .id, [.val (.int .i64 1)], none⟩])
 (.ret)))
 (.skip))))
 (.region [
 ⟨(some 38), none, .id, [.slot 5], none⟩,
 ⟨(some 39), none, .bin .add, [.slot 38, .val (.int .i64 1)], none⟩,
 ⟨(some 5), none, .id, [.slot 39], none⟩]))
def b_hedgerowref01_Compare : ICode :=
 .seq
 (.region [
 ⟨(some 2), none, .boxL, [.slot 0], none⟩,
 ⟨(some 3), none, .boxL, [.slot 1], none⟩,
 ⟨(some 4), none, .id, [.val (.int .i64 0)], none⟩])
 (.seq
 (.seq
 (.region [
 ⟨(some 6), none, .faddr 0, [.slot 2], none⟩,
 ⟨(some 7), none, .load 1 false, [.slot 6], none⟩,
 ⟨(some 8), none, .faddr 0, [.slot 3], none⟩,
 ⟨(some 9), none, .load 1 false, [.slot 8], none⟩,
 ⟨(some 10), none, .bin .neq, [.slot 7, .slot 9], none⟩])
 (.cond (.slot 10)
 (.seq
 (.seq
 (.region [
 ⟨(some 11), none, .faddr 0, [.slot 2], none⟩,
 ⟨(some 12), none, .load 1 false, [.slot 11], none⟩,
 ⟨(some 13), none, .faddr 0, [.slot 3], none⟩,
 ⟨(some 14), none, .load 1 false, [.slot 13], none⟩,
 ⟨(some 15), none, .bin .lss, [.slot 12, .slot 14], none⟩])
 (.cond (.slot 15)
 (.seq
 (.region [
 ⟨(some 4), none, .id, [.val (.int .i64 (-1))], none⟩])
 (.ret))
 (.skip)))
 (.seq
 (.region [
 ⟨(some 4), none, .id, [.val (.int .i64 1)], none⟩])
 (.ret)))
 (.skip)))
 (.seq
 (.seq
 (.region [
 ⟨(some 16), none, .faddr 1, [.slot 2], none⟩,
 ⟨(some 17), none, .load 1 false, [.slot 16], none⟩,
 ⟨(some 18), none, .faddr 1, [.slot 3], none⟩,
 ⟨(some 19), none, .load 1 false, [.slot 18], none⟩,
 ⟨(some 20), none, .bin .neq, [.slot 17, .slot 19], none⟩])
 (.cond (.slot 20)
 (.seq
 (.seq
 (.region [
 ⟨(some 21), none, .faddr 1, [.slot 2], none⟩,
 ⟨(some 22), none, .load 1 false, [.slot 21], none⟩,
 ⟨(some 23), none, .faddr 1, [.slot 3], none⟩,
 ⟨(some 24), none, .load 1 false, [.slot 23], none⟩,
 ⟨(some 25), none, .bin .lss, [.slot 22, .slot 24], none⟩])
 (.cond (.slot 25)
 (.seq
 (.region [
 ⟨(some 4), none, .id, [.val (.int .i64 (-1))], none⟩])
 (.ret))
 (.skip)))
 (.seq
 (.region [
 ⟨(some 4), none, .id, [.val (.int .i64 1)], none⟩])
 (.ret)))
 (.skip)))
 (.seq
 (.seq
 (.region [
 ⟨(some 5), none, .id, [.val (.int .i64 0)], none⟩])
 (.block 0
 (.loop L0_hedgerowref01_Compare)))
 (.seq
 (.seq
 (.region [
 ⟨(some 58), none, .faddr 2, [.slot 2], none⟩,
 ⟨(some 59), none, .load 1 false, [.slot 58], none⟩,
 ⟨(some 60), none, .lenstr, [.slot 59], none⟩,
 ⟨(some 61), none, .faddr 2, [.slot 3], none⟩,
 ⟨(some 62), none, .load 1 false, [.slot 61], none⟩,
 ⟨(some 63), none, .lenstr, [.slot 62], none⟩,
 ⟨(some 64), none, .bin .lss, [.slot 60, .slot 63], none⟩])
 (.cond (.slot 64)
 (.seq
 (.region [
 ⟨(some 4), none, .id, [.val (.int .i64 (-1))], none⟩])
 (.ret))
 (.skip)))
 (.seq
 (.seq
 (.region [
 ⟨(some 65), none, .faddr 2, [.slot 2], none⟩,
 ⟨(some 66), none, .load 1 false, [.slot 65], none⟩,
 ⟨(some 67), none, .lenstr, [.slot 66], none⟩,
 ⟨(some 68), none, .faddr 2, [.slot 3], none⟩,
 ⟨(some 69), none, .load 1 false, [.slot 68], none⟩,
 ⟨(some 70), none, .lenstr, [.slot 69], none⟩,
 ⟨(some 71), none, .bin .gtr, [.slot 67, .slot 70], none⟩])
 (.cond (.slot 71)
 (.seq
 (.region [
 ⟨(some 4), none, .id, [.val (.int .i64 1)], none⟩])
 (.ret))
 (.skip)))
 (.seq
 (.region [
 ⟨(some 4), none, .id, [.val (.int .i64 0)], none⟩])
 (.ret)))))))
def F_hedgerowref01_Compare : IFun := ⟨72, [.slot 4], b_hedgerowref01_Compare, 3, 0, nofn⟩
theorem c_hedgerowref01_Compare : cFun Tryz.prog [1048578, 1048579] 0 f_hedgerowref01_Compare = some F_hedgerowref01_Compare := by kernel_rfl

def b_hedgerowref06_Short : ICode :=
 .seq
 (.region [
 ⟨(some 1), none, .boxL, [.slot 0], none⟩,
 ⟨(some 2), none, .id, [.val (.bool false)], none⟩])
 (.seq
 (.region [
 ⟨(some 3), none, .faddr 19, [.slot 1], none⟩,
 ⟨(some 4), none, .faddr 1, [.slot 3], none⟩,
 ⟨(some 5), none, .load 1 false, [.slot 4], none⟩,
 ⟨(some 6), none, .lenstr, [.slot 5], none⟩,
 ⟨(some 7), none, .faddr 19, [.slot 1], none⟩,
 ⟨(some 8), none, .faddr 2, [.slot 7], none⟩,
 ⟨(some 9), none, .load 1 false, [.slot 8], none⟩,
 ⟨(some 10), none, .lenstr, [.slot 9], none⟩,
 ⟨(some 11), none, .bin .add, [.slot 6, .slot 10], none⟩,
 ⟨(some 12), none, .faddr 19, [.slot 1], none⟩,
 ⟨(some 13), none, .faddr 3, [.slot 12], none⟩,
 ⟨(some 14), none, .load 1 false, [.slot 13], none⟩,
 ⟨(some 15), none, .lenstr, [.slot 14], none⟩,
 ⟨(some 16), none, .bin .add, [.slot 11, .slot 15], none⟩,
 ⟨(some 17), none, .faddr 19, [.slot 1], none⟩,
 ⟨(some 18), none, .faddr 4, [.slot 17], none⟩,
 ⟨(some 19), none, .load 1 false, [.slot 18], none⟩,
 ⟨(some 20), none, .lenstr, [.slot 19], none⟩,
 ⟨(some 21), none, .bin .add, [.slot 16, .slot 20], none⟩,
 ⟨(some 22), none, .faddr 24, [.slot 1], none⟩,
 ⟨(some 23), none, .faddr 2, [.slot 22], none⟩,
 ⟨(some 24), none, .load 1 false, [.slot 23], none⟩,
 ⟨(some 25), none, .lenstr, [.slot 24], none⟩,
 ⟨(some 26), none, .bin .add, [.slot 21, .slot 25], none⟩,
 ⟨(some 27), none, .bin .leq, [.slot 26, .val (.int .i64 300)], none⟩,
 ⟨(some 2), none, .id, [.slot 27], none⟩])
 (.ret))
def F_hedgerowref06_Short : IFun := ⟨28, [.slot 2], b_hedgerowref06_Short, 3, 0, nofn⟩
theorem c_hedgerowref06_Short : cFun Tryz.prog [1048577] 0 f_hedgerowref06_Short = some F_hedgerowref06_Short := by kernel_rfl

def b_store_Order : ICode :=
 .seq
 (.region [
 ⟨(some 2), none, .boxL, [.slot 0], none⟩,
 ⟨(some 3), none, .boxL, [.slot 1], none⟩,
 ⟨(some 4), none, .id, [.val (.int .i64 0)], none⟩])
 (.seq
 (.region [
 ⟨(some 5), none, .faddr 0, [.slot 2], none⟩,
 ⟨(some 6), none, .load 1 false, [.slot 5], (some (.loc 2))⟩,
 ⟨(some 7), none, .faddr 0, [.slot 3], none⟩,
 ⟨(some 8), none, .load 1 false, [.slot 7], (some (.loc 3))⟩,
 ⟨(some 9), none, .call f_cmp_Compareint, [.slot 6, .slot 8], none⟩,
 ⟨(some 10), none, .faddr 1, [.slot 2], none⟩,
 ⟨(some 11), none, .load 1 false, [.slot 10], (some (.loc 2))⟩,
 ⟨(some 12), none, .faddr 1, [.slot 3], none⟩,
 ⟨(some 13), none, .load 1 false, [.slot 12], (some (.loc 3))⟩,
 ⟨(some 14), none, .call f_cmp_Comparestring, [.slot 11, .slot 13], none⟩,
 ⟨(some 15), none, .faddr 2, [.slot 2], none⟩,
 ⟨(some 16), none, .load 1 false, [.slot 15], (some (.loc 2))⟩,
 ⟨(some 17), none, .faddr 2, [.slot 3], none⟩,
 ⟨(some 18), none, .load 1 false, [.slot 17], (some (.loc 3))⟩,
 ⟨(some 19), none, .call f_cmp_Comparestring, [.slot 16, .slot 18], none⟩,
 ⟨(some 20), none, .faddr 3, [.slot 2], none⟩,
 ⟨(some 21), none, .load 1 false, [.slot 20], (some (.loc 2))⟩,
 ⟨(some 22), none, .faddr 3, [.slot 3], none⟩,
 ⟨(some 23), none, .load 1 false, [.slot 22], (some (.loc 3))⟩,
 ⟨(some 24), none, .call f_cmp_Comparestring, [.slot 21, .slot 23], none⟩,
 ⟨(some 25), none, .faddr 4, [.slot 2], none⟩,
 ⟨(some 26), none, .load 1 false, [.slot 25], (some (.loc 2))⟩,
 ⟨(some 27), none, .faddr 4, [.slot 3], none⟩,
 ⟨(some 28), none, .load 1 false, [.slot 27], (some (.loc 3))⟩,
 ⟨(some 29), none, .call f_cmp_Comparestring, [.slot 26, .slot 28], none⟩,
 ⟨(some 30), none, .buildSl 1 5 (.int .i64 0) [0, 1, 2, 3, 4], [.slot 9, .slot 14, .slot 19, .slot 24, .slot 29], none⟩,
 ⟨(some 31), none, .call f_cmp_Orint, [.slot 30], none⟩,
 ⟨(some 4), none, .id, [.slot 31], none⟩])
 (.ret))
def F_store_Order : IFun := ⟨32, [.slot 4], b_store_Order, 3, 0, nofn⟩
theorem c_store_Order : cFun Tryz.prog [1048578, 1048579] 0 f_store_Order = some F_store_Order := by kernel_rfl

def L0_hedgerowref06_Right : ICode :=
 .seq
 (.region [
 ⟨(some 29), none, .bin .lss, [.slot 28, .val (.int .i64 16)], none⟩])
 (.seq
 (.cond (.slot 29)
 (.skip)
 (.exit 0))
 (.seq
 (.block 1
 (.seq
 (.region [
 ⟨(some 30), none, .ixarr 16 1 false, [.slot 27, .slot 28], none⟩,
 ⟨(some 5), none, .id, [.slot 30], none⟩])
 (.seq
 (.region [
 ⟨(some 31), none, .id, [.slot 5], none⟩,
 ⟨(some 32), none, .bin .lss, [.slot 31, .val (.int .i64 0)], none⟩,
 ⟨(some 33), none, .id, [.slot 32], none⟩,
 ⟨(some 34), (some (33, false)), .id, [.slot 5], none⟩,
 ⟨(some 35), (some (33, false)), .bin .gtr, [.slot 34, .val (.int .i64 1048576)], none⟩,
 ⟨(some 36), none, .pick, [.slot 33, .val (.bool true), .slot 35], none⟩])
 (.cond (.slot 36)
 (.seq
 (.region [
 ⟨(some 2), none, .id, [.val (.bool false)], none⟩])
 (.ret))
 (.skip)))))
 (.region [
 ⟨(some 37), none, .bin .add, [.slot 28, .val (.int .i64 1)], none⟩,
 ⟨(some 28), none, .id, [.slot 37], none⟩])))
def b_hedgerowref06_Right : ICode :=
 .seq
 (.region [
 ⟨(some 1), none, .boxL, [.slot 0], none⟩,
 ⟨(some 2), none, .id, [.val (.bool false)], none⟩])
 (.seq
 (.region [
 ⟨(some 6), none, .faddr 0, [.slot 1], none⟩,
 ⟨(some 7), none, .load 2 true, [.slot 6], none⟩,
 ⟨(some 3), none, .allocL [(.int .i64 0), (.int .i64 0)], [], none⟩,
 ⟨none, none, .store 2, [.slot 3, .slot 7], none⟩])
 (.seq
 (.seq
 (.region [
 ⟨(some 8), none, .faddr 0, [.slot 3], none⟩,
 ⟨(some 9), none, .load 1 false, [.slot 8], none⟩,
 ⟨(some 10), none, .bin .lss, [.slot 9, .val (.int .i64 0)], none⟩,
 ⟨(some 11), none, .id, [.slot 10], none⟩,
 ⟨(some 12), (some (11, false)), .faddr 0, [.slot 3], none⟩,
 ⟨(some 13), (some (11, false)), .load 1 false, [.slot 12], none⟩,
 ⟨(some 14), (some (11, false)), .bin .gtr, [.slot 13, .val (.int .i64 15)], none⟩,
 ⟨(some 15), none, .pick, [.slot 11, .val (.bool true), .slot 14], none⟩,
 ⟨(some 16), none, .id, [.slot 15], none⟩,
 ⟨(some 17), (some (16, false)), .faddr 1, [.slot 3], none⟩,
 ⟨(some 18), (some (16, false)), .load 1 false, [.slot 17], none⟩,
 ⟨(some 19), (some (16, false)), .bin .lss, [.slot 18, .val (.int .i64 1)], none⟩,
 ⟨(some 20), none, .pick, [.slot 16, .val (.bool true), .slot 19], none⟩,
 ⟨(some 21), none, .id, [.slot 20], none⟩,
 ⟨(some 22), (some (21, false)), .faddr 1, [.slot 3], none⟩,
 ⟨(some 23), (some (21, false)), .load 1 false, [.slot 22], none⟩,
 ⟨(some 24), (some (21, false)), .bin .gtr, [.slot 23, .val (.int .i64 1048576)], none⟩,
 ⟨(some 25), none, .pick, [.slot 21, .val (.bool true), .slot 24], none⟩])
 (.cond (.slot 25)
 (.seq
 (.region [
 ⟨(some 2), none, .id, [.val (.bool false)], none⟩])
 (.ret))
 (.skip)))
 (.seq
 (.seq
 (.region [
 ⟨(some 26), none, .faddr 2, [.slot 1], none⟩,
 ⟨(some 27), none, .load 16 true, [.slot 26], none⟩,
 ⟨(some 28), none, .id, [.val (.int .i64 0)], none⟩])
 (.block 0
 (.loop L0_hedgerowref06_Right)))
 (.seq
 (.region [
 ⟨(some 38), none, .faddr 0, [.slot 3], none⟩,
 ⟨(some 39), none, .load 1 false, [.slot 38], (some (.loc 3))⟩,
 ⟨(some 40), none, .faddr 2, [.slot 1], none⟩,
 ⟨(some 41), none, .ixaddrA 16 1, [.slot 40, .slot 39], none⟩,
 ⟨(some 42), none, .load 1 false, [.slot 41], (some (.loc 1))⟩,
 ⟨(some 43), none, .faddr 1, [.slot 3], none⟩,
 ⟨(some 44), none, .load 1 false, [.slot 43], (some (.loc 3))⟩,
 ⟨(some 45), none, .bin .sub, [.slot 44, .val (.int .i64 1)], none⟩,
 ⟨(some 46), none, .bin .eql, [.slot 42, .slot 45], none⟩,
 ⟨(some 47), none, .id, [.slot 46], none⟩,
 ⟨(some 48), (some (47, true)), .faddr 18, [.slot 1], none⟩,
 ⟨(some 49), (some (47, true)), .load 1 false, [.slot 48], (some (.loc 1))⟩,
 ⟨(some 50), (some (47, true)), .faddr 19, [.slot 1], none⟩,
 ⟨(some 51), (some (47, true)), .load 5 true, [.slot 50], (some (.loc 1))⟩,
 ⟨(some 52), (some (47, true)), .faddr 24, [.slot 1], none⟩,
 ⟨(some 53), (some (47, true)), .load 3 true, [.slot 52], (some (.loc 1))⟩,
 ⟨(some 54), (some (47, true)), .build [(.int .i64 0), (.int .i64 0), (.str ⟨#[]⟩), (.str ⟨#[]⟩), (.str ⟨#[]⟩), (.str ⟨#[]⟩), (.int .i64 0), (.int .i64 0), (.str ⟨#[]⟩)] [(0, 1), (1, 5), (6, 3)], [.slot 49, .slot 51, .slot 53], none⟩,
 ⟨(some 55), (some (47, true)), .call f_hedgerowref06_Change, [.slot 54], none⟩,
 ⟨(some 56), none, .pick, [.slot 47, .slot 55, .val (.bool false)], none⟩,
 ⟨(some 2), none, .id, [.slot 56], none⟩])
 (.ret)))))
def F_hedgerowref06_Right : IFun := ⟨57, [.slot 2], b_hedgerowref06_Right, 3, 0, nofn⟩
theorem c_hedgerowref06_Right : cFun Tryz.prog [1048577, 1048579] 0 f_hedgerowref06_Right = some F_hedgerowref06_Right := by kernel_rfl

def b_event_Right : ICode :=
 .seq
 (.region [
 ⟨(some 1), none, .boxL, [.slot 0], none⟩,
 ⟨(some 2), none, .id, [.val (.int .i64 0)], none⟩])
 (.seq
 (.seq
 (.region [
 ⟨(some 3), none, .faddr 2, [.slot 1], none⟩,
 ⟨(some 4), none, .load 16 true, [.slot 3], none⟩,
 ⟨(some 5), none, .faddr 0, [.slot 1], none⟩,
 ⟨(some 6), none, .load 2 true, [.slot 5], none⟩,
 ⟨(some 7), none, .call f_vector_Next, [.slot 4, .slot 6], none⟩,
 ⟨(some 8), none, .un .not, [.slot 7], none⟩,
 ⟨(some 9), none, .id, [.slot 8], none⟩,
 ⟨(some 10), (some (9, false)), .faddr 2, [.slot 1], none⟩,
 ⟨(some 11), (some (9, false)), .load 16 true, [.slot 10], none⟩,
 ⟨(some 12), (some (9, false)), .call f_vector_Right, [.slot 11], none⟩,
 ⟨(some 13), (some (9, false)), .un .not, [.slot 12], none⟩,
 ⟨(some 14), none, .pick, [.slot 9, .val (.bool true), .slot 13], none⟩])
 (.cond (.slot 14)
 (.seq
 (.region [
 ⟨(some 2), none, .id, [.val (.int .i64 1)], none⟩])
 (.ret))
 (.skip)))
 (.seq
 (.region [
 ⟨(some 15), none, .load 27 true, [.slot 1], none⟩,
 ⟨(some 16), none, .call f_event_Of, [.slot 15], none⟩,
 ⟨(some 17), none, .call f_event_Change, [.slot 16], none⟩,
 ⟨(some 2), none, .id, [.slot 17], none⟩])
 (.ret)))
def F_event_Right : IFun := ⟨18, [.slot 2], b_event_Right, 3, 0, nofn⟩
theorem c_event_Right : cFun Tryz.prog [1048577] 0 f_event_Right = some F_event_Right := by kernel_rfl

def L0_slices_DeleteFuncstore_Entrystore_Entry : ICode :=
 .seq
 (.seq
 (.region [
 ⟨(some 16), none, .id, [.slot 6], none⟩,
 ⟨(some 17), none, .id, [.slot 0], none⟩,
 ⟨(some 18), none, .lensl, [.slot 17], none⟩,
 ⟨(some 19), none, .bin .lss, [.slot 16, .slot 18], none⟩])
 (.cond (.slot 19)
 (.skip)
 (.exit 0)))
 (.seq
 (.block 1
 (.seq
 (.region [
 ⟨(some 22), none, .id, [.slot 0], none⟩,
 ⟨(some 23), none, .id, [.slot 6], none⟩,
 ⟨(some 24), none, .ixaddr 5, [.slot 22, .slot 23], none⟩,
 ⟨(some 25), none, .load 5 true, [.slot 24], none⟩,
 ⟨(some 7), none, .allocL [(.int .i64 0), (.int .i64 0), (.int .i64 0), (.int .i64 0), (.str ⟨#[]⟩)], [], none⟩,
 ⟨none, none, .store 5, [.slot 7, .slot 25], none⟩])
 (.seq
 (.region [
 ⟨(some 26), none, .id, [.slot 1], none⟩,
 ⟨(some 27), none, .load 5 true, [.slot 7], none⟩,
 ⟨(some 28), none, .callv, [.slot 26, .slot 27], none⟩,
 ⟨(some 29), none, .un .not, [.slot 28], none⟩])
 (.cond (.slot 29)
 (.seq
 (.region [
 ⟨(some 30), none, .id, [.slot 0], none⟩,
 ⟨(some 31), none, .id, [.slot 5], none⟩,
 ⟨(some 32), none, .load 5 true, [.slot 7], none⟩,
 ⟨(some 33), none, .ixaddr 5, [.slot 30, .slot 31], none⟩,
 ⟨none, none, .store 5, [.slot 33, .slot 32], none⟩])
 (.region [
 ⟨(some 34), none, .id, [.slot 5], none⟩,
 ⟨(some 35), none, .bin .add, [.slot 34, .val (.int .i64 1)], none⟩,
 ⟨(some 5), none, .id, [.slot 35], none⟩]))
 (.skip)))))
 (.region [
 ⟨(some 20), none, .id, [.slot 6], none⟩,
 ⟨(some 21), none, .bin .add, [.slot 20, .val (.int .i64 1)], none⟩,
 ⟨(some 6), none, .id, [.slot 21], none⟩]))
def b_slices_DeleteFuncstore_Entrystore_Entry : ICode :=
 .seq
 (.region [
 ⟨(some 4), none, .id, [.val .nilsl], none⟩])
 (.seq
 (.region [
 ⟨(some 8), none, .id, [.slot 0], none⟩,
 ⟨(some 9), none, .id, [.slot 1], none⟩,
 ⟨(some 10), none, .call f_slices_IndexFuncstore_Entrystore_Entry, [.slot 8, .slot 9], none⟩,
 ⟨(some 5), none, .id, [.slot 10], none⟩])
 (.seq
 (.seq
 (.region [
 ⟨(some 11), none, .id, [.slot 5], none⟩,
 ⟨(some 12), none, .bin .eql, [.slot 11, .val (.int .i64 (-1))], none⟩])
 (.cond (.slot 12)
 (.seq
 (.region [
 ⟨(some 13), none, .id, [.slot 0], none⟩,
 ⟨(some 4), none, .id, [.slot 13], none⟩])
 (.ret))
 (.skip)))
 (.seq
 (.seq
 (.region [
 ⟨(some 14), none, .id, [.slot 5], none⟩,
 ⟨(some 15), none, .bin .add, [.slot 14, .val (.int .i64 1)], none⟩,
 ⟨(some 6), none, .id, [.slot 15], none⟩])
 (.block 0
 (.loop L0_slices_DeleteFuncstore_Entrystore_Entry)))
 (.seq
 (.region [
 ⟨(some 36), none, .id, [.slot 0], none⟩,
 ⟨(some 37), none, .id, [.slot 5], none⟩,
 ⟨(some 38), none, .slsl 5 true false false, [.slot 36, .slot 37], none⟩,
 ⟨none, none, .clearR 5 ((.agg [(.int .i64 0), (.int .i64 0), (.int .i64 0), (.int .i64 0), (.str ⟨#[]⟩)])), [.slot 38], none⟩])
 (.seq
 (.region [
 ⟨(some 39), none, .id, [.slot 0], none⟩,
 ⟨(some 40), none, .id, [.slot 5], none⟩,
 ⟨(some 41), none, .slsl 5 false true false, [.slot 39, .slot 40], none⟩,
 ⟨(some 4), none, .id, [.slot 41], none⟩])
 (.ret))))))
def F_slices_DeleteFuncstore_Entrystore_Entry : IFun := ⟨42, [.slot 4], b_slices_DeleteFuncstore_Entrystore_Entry, 3, 0, nofn⟩
theorem c_slices_DeleteFuncstore_Entrystore_Entry : cFun Tryz.prog [1048583] 0 f_slices_DeleteFuncstore_Entrystore_Entry = some F_slices_DeleteFuncstore_Entrystore_Entry := by kernel_rfl

def b_slices_Clonestore_Entrystore_Entry : ICode :=
 .seq
 (.region [
 ⟨(some 2), none, .id, [.val .nilsl], none⟩])
 (.seq
 (.seq
 (.region [
 ⟨(some 3), none, .id, [.slot 0], none⟩,
 ⟨(some 4), none, .eq1 false .slice, [.slot 3, .val .nilsl], none⟩])
 (.cond (.slot 4)
 (.seq
 (.region [
 ⟨(some 2), none, .id, [.val .nilsl], none⟩])
 (.ret))
 (.skip)))
 (.seq
 (.region [
 ⟨(some 5), none, .buildSl 5 0 (.agg [(.int .i64 0), (.int .i64 0), (.int .i64 0), (.int .i64 0), (.str ⟨#[]⟩)]) [], [], none⟩,
 ⟨(some 6), none, .id, [.slot 0], none⟩,
 ⟨(some 7), none, .appendN 56 5 48, [.slot 5, .slot 6], none⟩,
 ⟨(some 2), none, .id, [.slot 7], none⟩])
 (.ret)))
def F_slices_Clonestore_Entrystore_Entry : IFun := ⟨8, [.slot 2], b_slices_Clonestore_Entrystore_Entry, 3, 0, nofn⟩
theorem c_slices_Clonestore_Entrystore_Entry : cFun Tryz.prog [16777223] 0 f_slices_Clonestore_Entrystore_Entry = some F_slices_Clonestore_Entrystore_Entry := by kernel_rfl

def b_store_Store_Do_1 : ICode :=
 .seq
 (.region [
 ⟨(some 2), none, .boxL, [.slot 0], none⟩,
 ⟨(some 3), none, .id, [.val (.bool false)], none⟩])
 (.seq
 (.region [
 ⟨(some 4), none, .faddr 2, [.slot 1], none⟩,
 ⟨(some 5), none, .load 16 true, [.slot 4], none⟩,
 ⟨(some 6), none, .faddr 0, [.slot 2], none⟩,
 ⟨(some 7), none, .load 2 true, [.slot 6], none⟩,
 ⟨(some 8), none, .call f_vector_Knows, [.slot 5, .slot 7], none⟩,
 ⟨(some 3), none, .id, [.slot 8], none⟩])
 (.ret))
def F_store_Store_Do_1 : IFun := ⟨9, [.slot 3], b_store_Store_Do_1, 3, 0, nofn⟩
theorem c_store_Store_Do_1 : cFun Tryz.prog [1048578] 0 f_store_Store_Do_1 = some F_store_Store_Do_1 := by kernel_rfl

def b_vector_Knows : ICode :=
 .seq
 (.region [
 ⟨(some 2), none, .boxL, [.slot 0], none⟩,
 ⟨(some 3), none, .boxL, [.slot 1], none⟩,
 ⟨(some 4), none, .id, [.val (.bool false)], none⟩])
 (.seq
 (.region [
 ⟨(some 5), none, .load 2 true, [.slot 3], (some (.loc 3))⟩,
 ⟨(some 6), none, .call f_vector_Dot, [.slot 5], none⟩,
 ⟨(some 7), none, .id, [.slot 6], none⟩,
 ⟨(some 8), (some (7, true)), .faddr 0, [.slot 3], none⟩,
 ⟨(some 9), (some (7, true)), .load 1 false, [.slot 8], (some (.loc 3))⟩,
 ⟨(some 10), (some (7, true)), .ixaddrA 16 1, [.slot 2, .slot 9], none⟩,
 ⟨(some 11), (some (7, true)), .load 1 false, [.slot 10], (some (.loc 2))⟩,
 ⟨(some 12), (some (7, true)), .faddr 1, [.slot 3], none⟩,
 ⟨(some 13), (some (7, true)), .load 1 false, [.slot 12], (some (.loc 3))⟩,
 ⟨(some 14), (some (7, true)), .bin .geq, [.slot 11, .slot 13], none⟩,
 ⟨(some 15), none, .pick, [.slot 7, .slot 14, .val (.bool false)], none⟩,
 ⟨(some 4), none, .id, [.slot 15], none⟩])
 (.ret))
def F_vector_Knows : IFun := ⟨16, [.slot 4], b_vector_Knows, 3, 0, nofn⟩
theorem c_vector_Knows : cFun Tryz.prog [1048578, 1048579] 0 f_vector_Knows = some F_vector_Knows := by kernel_rfl

def L0_slices_BinarySearchFuncstore_Entrystore_Entrystore_Entry : ICode :=
 .seq
 (.seq
 (.region [
 ⟨(some 15), none, .id, [.slot 9], none⟩,
 ⟨(some 16), none, .id, [.slot 10], none⟩,
 ⟨(some 17), none, .bin .lss, [.slot 15, .slot 16], none⟩])
 (.cond (.slot 17)
 (.skip)
 (.exit 0)))
 (.block 1
 (.seq
 (.region [
 ⟨(some 18), none, .id, [.slot 9], none⟩,
 ⟨(some 19), none, .id, [.slot 10], none⟩,
 ⟨(some 20), none, .bin .add, [.slot 18, .slot 19], none⟩,
 ⟨(some 21), none, .conv .u64, [.slot 20], none⟩,
 ⟨(some 22), none, .bin .shr, [.slot 21, .val (.int .u64 1)], none⟩,
 ⟨(some 23), none, .conv .i64, [.slot 22], none⟩,
 ⟨(some 11), none, .id, [.slot 23], none⟩])
 (.seq
 (.region [
 ⟨(some 24), none, .id, [.slot 2], none⟩,
 ⟨(some 25), none, .id, [.slot 0], none⟩,
 ⟨(some 26), none, .id, [.slot 11], none⟩,
 ⟨(some 27), none, .ixaddr 5, [.slot 25, .slot 26], none⟩,
 ⟨(some 28), none, .load 5 true, [.slot 27], (some (.el))⟩,
 ⟨(some 29), none, .load 5 true, [.slot 4], (some (.loc 4))⟩,
 ⟨(some 30), none, .callv, [.slot 24, .slot 28, .slot 29], none⟩,
 ⟨(some 31), none, .bin .lss, [.slot 30, .val (.int .i64 0)], none⟩])
 (.cond (.slot 31)
 (.region [
 ⟨(some 32), none, .id, [.slot 11], none⟩,
 ⟨(some 33), none, .bin .add, [.slot 32, .val (.int .i64 1)], none⟩,
 ⟨(some 9), none, .id, [.slot 33], none⟩])
 (.region [
 ⟨(some 34), none, .id, [.slot 11], none⟩,
 ⟨(some 10), none, .id, [.slot 34], none⟩])))))
def b_slices_BinarySearchFuncstore_Entrystore_Entrystore_Entry : ICode :=
 .seq
 (.region [
 ⟨(some 4), none, .boxL, [.slot 1], none⟩,
 ⟨(some 6), none, .id, [.val (.int .i64 0)], none⟩,
 ⟨(some 7), none, .id, [.val (.bool false)], none⟩])
 (.seq
 (.region [
 ⟨(some 12), none, .id, [.slot 0], none⟩,
 ⟨(some 13), none, .lensl, [.slot 12], none⟩,
 ⟨(some 8), none, .id, [.slot 13], none⟩])
 (.seq
 (.region [
 ⟨(some 14), none, .id, [.slot 8], none⟩,
 ⟨(some 9), none, .id, [.val (.int .i64 0)], none⟩,
 ⟨(some 10), none, .id, [.slot 14], none⟩])
 (.seq
 (.block 0
 (.loop L0_slices_BinarySearchFuncstore_Entrystore_Entrystore_Entry))
 (.seq
 (.region [
 ⟨(some 35), none, .id, [.slot 9], none⟩,
 ⟨(some 36), none, .id, [.slot 9], none⟩,
 ⟨(some 37), none, .id, [.slot 8], none⟩,
 ⟨(some 38), none, .bin .lss, [.slot 36, .slot 37], none⟩,
 ⟨(some 39), none, .id, [.slot 38], none⟩,
 ⟨(some 40), (some (39, true)), .id, [.slot 2], none⟩,
 ⟨(some 41), (some (39, true)), .id, [.slot 0], none⟩,
 ⟨(some 42), (some (39, true)), .id, [.slot 9], none⟩,
 ⟨(some 43), (some (39, true)), .ixaddr 5, [.slot 41, .slot 42], none⟩,
 ⟨(some 44), (some (39, true)), .load 5 true, [.slot 43], (some (.el))⟩,
 ⟨(some 45), (some (39, true)), .load 5 true, [.slot 4], (some (.loc 4))⟩,
 ⟨(some 46), (some (39, true)), .callv, [.slot 40, .slot 44, .slot 45], none⟩,
 ⟨(some 47), (some (39, true)), .bin .eql, [.slot 46, .val (.int .i64 0)], none⟩,
 ⟨(some 48), none, .pick, [.slot 39, .slot 47, .val (.bool false)], none⟩,
 ⟨(some 6), none, .id, [.slot 35], none⟩,
 ⟨(some 7), none, .id, [.slot 48], none⟩])
 (.ret)))))
def F_slices_BinarySearchFuncstore_Entrystore_Entrystore_Entry : IFun := ⟨49, [.slot 6, .slot 7], b_slices_BinarySearchFuncstore_Entrystore_Entrystore_Entry, 3, 0, nofn⟩
theorem c_slices_BinarySearchFuncstore_Entrystore_Entrystore_Entry : cFun Tryz.prog [1048580] 0 f_slices_BinarySearchFuncstore_Entrystore_Entrystore_Entry = some F_slices_BinarySearchFuncstore_Entrystore_Entrystore_Entry := by kernel_rfl

def b_store_byDot : ICode :=
 .seq
 (.region [
 ⟨(some 2), none, .boxL, [.slot 0], none⟩,
 ⟨(some 3), none, .boxL, [.slot 1], none⟩,
 ⟨(some 4), none, .id, [.val (.int .i64 0)], none⟩])
 (.seq
 (.region [
 ⟨(some 5), none, .faddr 0, [.slot 2], none⟩,
 ⟨(some 6), none, .faddr 0, [.slot 5], none⟩,
 ⟨(some 7), none, .load 1 false, [.slot 6], (some (.loc 2))⟩,
 ⟨(some 8), none, .faddr 0, [.slot 3], none⟩,
 ⟨(some 9), none, .faddr 0, [.slot 8], none⟩,
 ⟨(some 10), none, .load 1 false, [.slot 9], (some (.loc 3))⟩,
 ⟨(some 11), none, .call f_cmp_Compareint, [.slot 7, .slot 10], none⟩,
 ⟨(some 12), none, .faddr 0, [.slot 2], none⟩,
 ⟨(some 13), none, .faddr 1, [.slot 12], none⟩,
 ⟨(some 14), none, .load 1 false, [.slot 13], (some (.loc 2))⟩,
 ⟨(some 15), none, .faddr 0, [.slot 3], none⟩,
 ⟨(some 16), none, .faddr 1, [.slot 15], none⟩,
 ⟨(some 17), none, .load 1 false, [.slot 16], (some (.loc 3))⟩,
 ⟨(some 18), none, .call f_cmp_Compareint, [.slot 14, .slot 17], none⟩,
 ⟨(some 19), none, .buildSl 1 2 (.int .i64 0) [0, 1], [.slot 11, .slot 18], none⟩,
 ⟨(some 20), none, .call f_cmp_Orint, [.slot 19], none⟩,
 ⟨(some 4), none, .id, [.slot 20], none⟩])
 (.ret))
def F_store_byDot : IFun := ⟨21, [.slot 4], b_store_byDot, 3, 0, nofn⟩
theorem c_store_byDot : cFun Tryz.prog [1048578, 1048579] 0 f_store_byDot = some F_store_byDot := by kernel_rfl

def F_slices_Insertstore_Entrystore_Entry : IFun := ⟨8, [], .trap, 0, 30, insEFn⟩

def b_store_Store_lay : ICode :=
 .seq
 (.region [
 ⟨(some 4), none, .boxL, [.slot 1], none⟩])
 (.seq
 (.seq
 (.region [
 ⟨(some 6), none, .id, [.slot 2], none⟩,
 ⟨(some 7), none, .lensl, [.slot 6], none⟩,
 ⟨(some 8), none, .bin .eql, [.slot 7, .val (.int .i64 0)], none⟩])
 (.cond (.slot 8)
 (.seq
 (.region [
 ⟨(some 9), none, .id, [.slot 0], none⟩,
 ⟨(some 10), none, .nilchk, [.slot 9], none⟩,
 ⟨(some 11), none, .faddr 0, [.slot 10], none⟩,
 ⟨(some 12), none, .load 1 false, [.slot 11], (some (.heap))⟩,
 ⟨(some 13), none, .load 5 true, [.slot 4], (some (.loc 4))⟩,
 ⟨none, none, .mdel true [(.int .i64), .str, .str, .str, .str], [.slot 12, .slot 13], none⟩])
 (.ret))
 (.skip)))
 (.region [
 ⟨(some 14), none, .id, [.slot 0], none⟩,
 ⟨(some 15), none, .nilchk, [.slot 14], none⟩,
 ⟨(some 16), none, .faddr 0, [.slot 15], none⟩,
 ⟨(some 17), none, .load 1 false, [.slot 16], (some (.heap))⟩,
 ⟨(some 18), none, .load 5 true, [.slot 4], (some (.loc 4))⟩,
 ⟨(some 19), none, .id, [.slot 2], none⟩,
 ⟨none, none, .mset true [(.int .i64), .str, .str, .str, .str], [.slot 17, .slot 18, .slot 19], none⟩]))
def F_store_Store_lay : IFun := ⟨20, [], b_store_Store_lay, 3, 0, nofn⟩
theorem c_store_Store_lay : cFun Tryz.prog [1048580] 0 f_store_Store_lay = some F_store_Store_lay := by kernel_rfl

def F_slices_SortFuncstore_Itemstore_Item : IFun := ⟨8, [], .trap, 0, 30, sortIFn⟩

def b_store_Store_All_1 : ICode :=
 .seq
 (.region [
 ⟨(some 2), none, .boxL, [.slot 0], none⟩,
 ⟨(some 3), none, .boxL, [.slot 1], none⟩,
 ⟨(some 4), none, .id, [.val (.int .i64 0)], none⟩])
 (.seq
 (.region [
 ⟨(some 5), none, .faddr 0, [.slot 2], none⟩,
 ⟨(some 6), none, .load 5 true, [.slot 5], none⟩,
 ⟨(some 7), none, .faddr 0, [.slot 3], none⟩,
 ⟨(some 8), none, .load 5 true, [.slot 7], none⟩,
 ⟨(some 9), none, .call f_store_Order, [.slot 6, .slot 8], none⟩,
 ⟨(some 4), none, .id, [.slot 9], none⟩])
 (.ret))
def F_store_Store_All_1 : IFun := ⟨10, [.slot 4], b_store_Store_All_1, 3, 0, nofn⟩
theorem c_store_Store_All_1 : cFun Tryz.prog [1048578, 1048579] 0 f_store_Store_All_1 = some F_store_Store_All_1 := by kernel_rfl

def b_hedgerowref07_knows : ICode :=
 .seq
 (.region [
 ⟨(some 2), none, .boxL, [.slot 0], none⟩,
 ⟨(some 3), none, .boxL, [.slot 1], none⟩,
 ⟨(some 4), none, .id, [.val (.bool false)], none⟩])
 (.seq
 (.region [
 ⟨(some 5), none, .faddr 0, [.slot 3], none⟩,
 ⟨(some 6), none, .load 1 false, [.slot 5], (some (.loc 3))⟩,
 ⟨(some 7), none, .ixaddrA 16 1, [.slot 2, .slot 6], none⟩,
 ⟨(some 8), none, .load 1 false, [.slot 7], (some (.loc 2))⟩,
 ⟨(some 9), none, .faddr 1, [.slot 3], none⟩,
 ⟨(some 10), none, .load 1 false, [.slot 9], (some (.loc 3))⟩,
 ⟨(some 11), none, .bin .geq, [.slot 8, .slot 10], none⟩,
 ⟨(some 4), none, .id, [.slot 11], none⟩])
 (.ret))
def F_hedgerowref07_knows : IFun := ⟨12, [.slot 4], b_hedgerowref07_knows, 3, 0, nofn⟩
theorem c_hedgerowref07_knows : cFun Tryz.prog [1048578, 1048579] 0 f_hedgerowref07_knows = some F_hedgerowref07_knows := by kernel_rfl

def b_value_Elem : ICode :=
 .seq
 (.region [
 ⟨(some 1), none, .boxL, [.slot 0], none⟩,
 ⟨(some 2), none, .id, [.val (.bool false)], none⟩])
 (.seq
 (.seq
 (.region [
 ⟨(some 3), none, .faddr 0, [.slot 1], none⟩,
 ⟨(some 4), none, .load 1 false, [.slot 3], none⟩])
 (.block 0
 (.seq
 (.region [
 ⟨(some 6), none, .bin .eql, [.slot 4, .val (.int .i64 1)], none⟩,
 ⟨(some 5), none, .id, [.slot 6], none⟩])
 (.cond (.slot 5)
 (.seq
 (.region [
 ⟨(some 7), none, .faddr 1, [.slot 1], none⟩,
 ⟨(some 8), none, .load 1 false, [.slot 7], none⟩,
 ⟨(some 9), none, .buildSl 1 1 (.str ⟨#[]⟩) [0], [.slot 8], none⟩,
 ⟨(some 10), none, .call f_value_names, [.slot 9], none⟩,
 ⟨(some 11), none, .id, [.slot 10], none⟩,
 ⟨(some 12), (some (11, true)), .faddr 2, [.slot 1], none⟩,
 ⟨(some 13), (some (11, true)), .load 1 false, [.slot 12], none⟩,
 ⟨(some 14), (some (11, true)), .faddr 3, [.slot 1], none⟩,
 ⟨(some 15), (some (11, true)), .load 1 false, [.slot 14], none⟩,
 ⟨(some 16), (some (11, true)), .faddr 4, [.slot 1], none⟩,
 ⟨(some 17), (some (11, true)), .load 1 false, [.slot 16], none⟩,
 ⟨(some 18), (some (11, true)), .buildSl 1 3 (.str ⟨#[]⟩) [0, 1, 2], [.slot 13, .slot 15, .slot 17], none⟩,
 ⟨(some 19), (some (11, true)), .call f_value_empty, [.slot 18], none⟩,
 ⟨(some 20), none, .pick, [.slot 11, .slot 19, .val (.bool false)], none⟩,
 ⟨(some 2), none, .id, [.slot 20], none⟩])
 (.ret))
 (.seq
 (.seq
 (.region [
 ⟨(some 22), none, .bin .eql, [.slot 4, .val (.int .i64 2)], none⟩,
 ⟨(some 21), none, .id, [.slot 22], none⟩])
 (.cond (.slot 21)
 (.skip)
 (.region [
 ⟨(some 23), none, .bin .eql, [.slot 4, .val (.int .i64 4)], none⟩,
 ⟨(some 21), none, .id, [.slot 23], none⟩])))
 (.cond (.slot 21)
 (.seq
 (.region [
 ⟨(some 24), none, .faddr 1, [.slot 1], none⟩,
 ⟨(some 25), none, .load 1 false, [.slot 24], none⟩,
 ⟨(some 26), none, .faddr 4, [.slot 1], none⟩,
 ⟨(some 27), none, .load 1 false, [.slot 26], none⟩,
 ⟨(some 28), none, .buildSl 1 2 (.str ⟨#[]⟩) [0, 1], [.slot 25, .slot 27], none⟩,
 ⟨(some 29), none, .call f_value_names, [.slot 28], none⟩,
 ⟨(some 30), none, .id, [.slot 29], none⟩,
 ⟨(some 31), (some (30, true)), .faddr 2, [.slot 1], none⟩,
 ⟨(some 32), (some (30, true)), .load 1 false, [.slot 31], none⟩,
 ⟨(some 33), (some (30, true)), .faddr 3, [.slot 1], none⟩,
 ⟨(some 34), (some (30, true)), .load 1 false, [.slot 33], none⟩,
 ⟨(some 35), (some (30, true)), .buildSl 1 2 (.str ⟨#[]⟩) [0, 1], [.slot 32, .slot 34], none⟩,
 ⟨(some 36), (some (30, true)), .call f_value_empty, [.slot 35], none⟩,
 ⟨(some 37), none, .pick, [.slot 30, .slot 36, .val (.bool false)], none⟩,
 ⟨(some 2), none, .id, [.slot 37], none⟩])
 (.ret))
 (.seq
 (.region [
 ⟨(some 39), none, .bin .eql, [.slot 4, .val (.int .i64 3)], none⟩,
 ⟨(some 38), none, .id, [.slot 39], none⟩])
 (.cond (.slot 38)
 (.seq
 (.region [
 ⟨(some 40), none, .faddr 1, [.slot 1], none⟩,
 ⟨(some 41), none, .load 1 false, [.slot 40], none⟩,
 ⟨(some 42), none, .faddr 2, [.slot 1], none⟩,
 ⟨(some 43), none, .load 1 false, [.slot 42], none⟩,
 ⟨(some 44), none, .faddr 3, [.slot 1], none⟩,
 ⟨(some 45), none, .load 1 false, [.slot 44], none⟩,
 ⟨(some 46), none, .buildSl 1 3 (.str ⟨#[]⟩) [0, 1, 2], [.slot 41, .slot 43, .slot 45], none⟩,
 ⟨(some 47), none, .call f_value_names, [.slot 46], none⟩,
 ⟨(some 48), none, .id, [.slot 47], none⟩,
 ⟨(some 49), (some (48, true)), .faddr 4, [.slot 1], none⟩,
 ⟨(some 50), (some (48, true)), .load 1 false, [.slot 49], none⟩,
 ⟨(some 51), (some (48, true)), .buildSl 1 1 (.str ⟨#[]⟩) [0], [.slot 50], none⟩,
 ⟨(some 52), (some (48, true)), .call f_value_empty, [.slot 51], none⟩,
 ⟨(some 53), none, .pick, [.slot 48, .slot 52, .val (.bool false)], none⟩,
 ⟨(some 2), none, .id, [.slot 53], none⟩])
 (.ret))
 (.seq
 (.region [
 ⟨(some 55), none, .bin .eql, [.slot 4, .val (.int .i64 5)], none⟩,
 ⟨(some 54), none, .id, [.slot 55], none⟩])
 (.cond (.slot 54)
 (.seq
 (.region [
 ⟨(some 56), none, .faddr 1, [.slot 1], none⟩,
 ⟨(some 57), none, .load 1 false, [.slot 56], none⟩,
 ⟨(some 58), none, .faddr 2, [.slot 1], none⟩,
 ⟨(some 59), none, .load 1 false, [.slot 58], none⟩,
 ⟨(some 60), none, .faddr 3, [.slot 1], none⟩,
 ⟨(some 61), none, .load 1 false, [.slot 60], none⟩,
 ⟨(some 62), none, .faddr 4, [.slot 1], none⟩,
 ⟨(some 63), none, .load 1 false, [.slot 62], none⟩,
 ⟨(some 64), none, .buildSl 1 4 (.str ⟨#[]⟩) [0, 1, 2, 3], [.slot 57, .slot 59, .slot 61, .slot 63], none⟩,
 ⟨(some 65), none, .call f_value_names, [.slot 64], none⟩,
 ⟨(some 2), none, .id, [.slot 65], none⟩])
 (.ret))
 (.skip)))))))))))
 (.seq
 (.region [
 ⟨(some 2), none, .id, [.val (.bool false)], none⟩])
 (.ret)))
def F_value_Elem : IFun := ⟨66, [.slot 2], b_value_Elem, 3, 0, nofn⟩
theorem c_value_Elem : cFun Tryz.prog [1048577] 0 f_value_Elem = some F_value_Elem := by kernel_rfl

def b_store_entry : ICode :=
 .seq
 (.region [
 ⟨(some 2), none, .boxL, [.slot 0], none⟩,
 ⟨(some 3), none, .boxL, [.slot 1], none⟩,
 ⟨(some 4), none, .id, [.val (.bool false)], none⟩])
 (.seq
 (.region [
 ⟨(some 5), none, .id, [.val (.int .i64 1)], none⟩])
 (.seq
 (.seq
 (.region [
 ⟨(some 6), none, .faddr 0, [.slot 2], none⟩,
 ⟨(some 7), none, .load 1 false, [.slot 6], none⟩,
 ⟨(some 8), none, .bin .eql, [.slot 7, .val (.int .i64 4)], none⟩,
 ⟨(some 9), none, .id, [.slot 8], none⟩,
 ⟨(some 10), (some (9, false)), .faddr 0, [.slot 2], none⟩,
 ⟨(some 11), (some (9, false)), .load 1 false, [.slot 10], none⟩,
 ⟨(some 12), (some (9, false)), .bin .eql, [.slot 11, .val (.int .i64 5)], none⟩,
 ⟨(some 13), none, .pick, [.slot 9, .val (.bool true), .slot 12], none⟩])
 (.cond (.slot 13)
 (.region [
 ⟨(some 5), none, .id, [.val (.int .i64 3)], none⟩])
 (.skip)))
 (.seq
 (.region [
 ⟨(some 14), none, .faddr 0, [.slot 3], none⟩,
 ⟨(some 15), none, .load 2 true, [.slot 14], none⟩,
 ⟨(some 16), none, .call f_vector_Dot, [.slot 15], none⟩,
 ⟨(some 17), none, .id, [.slot 16], none⟩,
 ⟨(some 18), (some (17, true)), .id, [.slot 5], none⟩,
 ⟨(some 19), (some (17, true)), .load 5 true, [.slot 2], none⟩,
 ⟨(some 20), (some (17, true)), .faddr 2, [.slot 3], none⟩,
 ⟨(some 21), (some (17, true)), .load 3 true, [.slot 20], none⟩,
 ⟨(some 22), (some (17, true)), .build [(.int .i64 0), (.int .i64 0), (.str ⟨#[]⟩), (.str ⟨#[]⟩), (.str ⟨#[]⟩), (.str ⟨#[]⟩), (.int .i64 0), (.int .i64 0), (.str ⟨#[]⟩)] [(0, 1), (1, 5), (6, 3)], [.slot 18, .slot 19, .slot 21], none⟩,
 ⟨(some 23), (some (17, true)), .call f_event_Change, [.slot 22], none⟩,
 ⟨(some 24), (some (17, true)), .bin .eql, [.slot 23, .val (.int .i64 0)], none⟩,
 ⟨(some 25), none, .pick, [.slot 17, .slot 24, .val (.bool false)], none⟩,
 ⟨(some 4), none, .id, [.slot 25], none⟩])
 (.ret))))
def F_store_entry : IFun := ⟨26, [.slot 4], b_store_entry, 3, 0, nofn⟩
theorem c_store_entry : cFun Tryz.prog [1048578, 1048579] 0 f_store_entry = some F_store_entry := by kernel_rfl

def F_slices_SortFuncapi_Valueapi_Value : IFun := ⟨8, [], .trap, 0, 30, sortVFn⟩

def b_value_Compare : ICode :=
 .seq
 (.region [
 ⟨(some 2), none, .boxL, [.slot 0], none⟩,
 ⟨(some 3), none, .boxL, [.slot 1], none⟩,
 ⟨(some 4), none, .id, [.val (.int .i64 0)], none⟩])
 (.seq
 (.region [
 ⟨(some 5), none, .faddr 0, [.slot 2], none⟩,
 ⟨(some 6), none, .load 1 false, [.slot 5], (some (.loc 2))⟩,
 ⟨(some 7), none, .faddr 0, [.slot 3], none⟩,
 ⟨(some 8), none, .load 1 false, [.slot 7], (some (.loc 3))⟩,
 ⟨(some 9), none, .call f_cmp_Compareint, [.slot 6, .slot 8], none⟩,
 ⟨(some 10), none, .faddr 1, [.slot 2], none⟩,
 ⟨(some 11), none, .load 1 false, [.slot 10], (some (.loc 2))⟩,
 ⟨(some 12), none, .faddr 1, [.slot 3], none⟩,
 ⟨(some 13), none, .load 1 false, [.slot 12], (some (.loc 3))⟩,
 ⟨(some 14), none, .call f_cmp_Compareint, [.slot 11, .slot 13], none⟩,
 ⟨(some 15), none, .faddr 2, [.slot 2], none⟩,
 ⟨(some 16), none, .load 1 false, [.slot 15], (some (.loc 2))⟩,
 ⟨(some 17), none, .faddr 2, [.slot 3], none⟩,
 ⟨(some 18), none, .load 1 false, [.slot 17], (some (.loc 3))⟩,
 ⟨(some 19), none, .call f_cmp_Comparestring, [.slot 16, .slot 18], none⟩,
 ⟨(some 20), none, .buildSl 1 3 (.int .i64 0) [0, 1, 2], [.slot 9, .slot 14, .slot 19], none⟩,
 ⟨(some 21), none, .call f_cmp_Orint, [.slot 20], none⟩,
 ⟨(some 4), none, .id, [.slot 21], none⟩])
 (.ret))
def F_value_Compare : IFun := ⟨22, [.slot 4], b_value_Compare, 3, 0, nofn⟩
theorem c_value_Compare : cFun Tryz.prog [1048578, 1048579] 0 f_value_Compare = some F_value_Compare := by kernel_rfl

def L0_slices_Compactapi_Valueapi_Value : ICode :=
 .seq
 (.seq
 (.region [
 ⟨(some 29), none, .id, [.slot 5], none⟩,
 ⟨(some 30), none, .id, [.slot 4], none⟩,
 ⟨(some 31), none, .lensl, [.slot 30], none⟩,
 ⟨(some 32), none, .bin .lss, [.slot 29, .slot 31], none⟩])
 (.cond (.slot 32)
 (.skip)
 (.exit 2)))
 (.seq
 (.block 3
 (.seq
 (.region [
 ⟨(some 35), none, .id, [.slot 4], none⟩,
 ⟨(some 36), none, .id, [.slot 5], none⟩,
 ⟨(some 37), none, .ixaddr 3, [.slot 35, .slot 36], none⟩,
 ⟨(some 38), none, .load 3 true, [.slot 37], (some (.heap))⟩,
 ⟨(some 39), none, .id, [.slot 4], none⟩,
 ⟨(some 40), none, .id, [.slot 5], none⟩,
 ⟨(some 41), none, .bin .sub, [.slot 40, .val (.int .i64 1)], none⟩,
 ⟨(some 42), none, .ixaddr 3, [.slot 39, .slot 41], none⟩,
 ⟨(some 43), none, .load 3 true, [.slot 42], (some (.heap))⟩,
 ⟨(some 44), none, .eqv true [(.int .i64), (.int .i64), .str], [.slot 38, .slot 43], none⟩])
 (.cond (.slot 44)
 (.seq
 (.region [
 ⟨(some 45), none, .id, [.slot 0], none⟩,
 ⟨(some 46), none, .id, [.slot 3], none⟩,
 ⟨(some 47), none, .id, [.slot 4], none⟩,
 ⟨(some 48), none, .id, [.slot 5], none⟩,
 ⟨(some 49), none, .ixaddr 3, [.slot 47, .slot 48], none⟩,
 ⟨(some 50), none, .load 3 true, [.slot 49], none⟩,
 ⟨(some 51), none, .ixaddr 3, [.slot 45, .slot 46], none⟩,
 ⟨none, none, .store 3, [.slot 51, .slot 50], none⟩])
 (.region [
 ⟨(some 52), none, .id, [.slot 3], none⟩,
 ⟨(some 53), none, .bin .add, [.slot 52, .val (.int .i64 1)], none⟩,
 ⟨(some 3), none, .id, [.slot 53], none⟩]))
 (.skip))))
 (.region [
 ⟨(some 33), none, .id, [.slot 5], none⟩,
 ⟨(some 34), none, .bin .add, [.slot 33, .val (.int .i64 1)], none⟩,
 ⟨(some 5), none, .id, [.slot 34], none⟩]))
def L1_slices_Compactapi_Valueapi_Value : ICode :=
 .seq
 (.seq
 (.region [
 ⟨(some 10), none, .id, [.slot 3], none⟩,
 ⟨(some 11), none, .id, [.slot 0], none⟩,
 ⟨(some 12), none, .lensl, [.slot 11], none⟩,
 ⟨(some 13), none, .bin .lss, [.slot 10, .slot 12], none⟩])
 (.cond (.slot 13)
 (.skip)
 (.exit 0)))
 (.seq
 (.block 1
 (.seq
 (.region [
 ⟨(some 16), none, .id, [.slot 0], none⟩,
 ⟨(some 17), none, .id, [.slot 3], none⟩,
 ⟨(some 18), none, .ixaddr 3, [.slot 16, .slot 17], none⟩,
 ⟨(some 19), none, .load 3 true, [.slot 18], (some (.heap))⟩,
 ⟨(some 20), none, .id, [.slot 0], none⟩,
 ⟨(some 21), none, .id, [.slot 3], none⟩,
 ⟨(some 22), none, .bin .sub, [.slot 21, .val (.int .i64 1)], none⟩,
 ⟨(some 23), none, .ixaddr 3, [.slot 20, .slot 22], none⟩,
 ⟨(some 24), none, .load 3 true, [.slot 23], (some (.heap))⟩,
 ⟨(some 25), none, .eqv false [(.int .i64), (.int .i64), .str], [.slot 19, .slot 24], none⟩])
 (.cond (.slot 25)
 (.seq
 (.region [
 ⟨(some 26), none, .id, [.slot 0], none⟩,
 ⟨(some 27), none, .id, [.slot 3], none⟩,
 ⟨(some 28), none, .slsl 3 true false false, [.slot 26, .slot 27], none⟩,
 ⟨(some 4), none, .id, [.slot 28], none⟩])
 (.seq
 (.seq
 (.region [
 ⟨(some 5), none, .id, [.val (.int .i64 1)], none⟩])
 (.block 2
 (.loop L0_slices_Compactapi_Valueapi_Value)))
 (.seq
 (.region [
 ⟨(some 54), none, .id, [.slot 0], none⟩,
 ⟨(some 55), none, .id, [.slot 3], none⟩,
 ⟨(some 56), none, .slsl 3 true false false, [.slot 54, .slot 55], none⟩,
 ⟨none, none, .clearR 3 ((.agg [(.int .i64 0), (.int .i64 0), (.str ⟨#[]⟩)])), [.slot 56], none⟩])
 (.seq
 (.region [
 ⟨(some 57), none, .id, [.slot 0], none⟩,
 ⟨(some 58), none, .id, [.slot 3], none⟩,
 ⟨(some 59), none, .slsl 3 false true false, [.slot 57, .slot 58], none⟩,
 ⟨(some 2), none, .id, [.slot 59], none⟩])
 (.ret)))))
 (.skip))))
 (.region [
 ⟨(some 14), none, .id, [.slot 3], none⟩,
 ⟨(some 15), none, .bin .add, [.slot 14, .val (.int .i64 1)], none⟩,
 ⟨(some 3), none, .id, [.slot 15], none⟩]))
def b_slices_Compactapi_Valueapi_Value : ICode :=
 .seq
 (.region [
 ⟨(some 2), none, .id, [.val .nilsl], none⟩])
 (.seq
 (.seq
 (.region [
 ⟨(some 6), none, .id, [.slot 0], none⟩,
 ⟨(some 7), none, .lensl, [.slot 6], none⟩,
 ⟨(some 8), none, .bin .lss, [.slot 7, .val (.int .i64 2)], none⟩])
 (.cond (.slot 8)
 (.seq
 (.region [
 ⟨(some 9), none, .id, [.slot 0], none⟩,
 ⟨(some 2), none, .id, [.slot 9], none⟩])
 (.ret))
 (.skip)))
 (.seq
 (.seq
 (.region [
 ⟨(some 3), none, .id, [.val (.int .i64 1)], none⟩])
 (.block 0
 (.loop L1_slices_Compactapi_Valueapi_Value)))
 (.seq
 (.region [
 ⟨(some 60), none, .id, [.slot 0], none⟩,
 ⟨(some 2), none, .id, [.slot 60], none⟩])
 (.ret))))
def F_slices_Compactapi_Valueapi_Value : IFun := ⟨61, [.slot 2], b_slices_Compactapi_Valueapi_Value, 3, 0, nofn⟩
theorem c_slices_Compactapi_Valueapi_Value : cFun Tryz.prog [3145746, 3145751, 3145765, 3145770] 0 f_slices_Compactapi_Valueapi_Value = some F_slices_Compactapi_Valueapi_Value := by kernel_rfl

def L0_cmp_Orint : ICode :=
 .seq
 (.region [
 ⟨(some 9), none, .bin .lss, [.slot 8, .slot 7], none⟩])
 (.seq
 (.cond (.slot 9)
 (.skip)
 (.exit 0))
 (.seq
 (.block 1
 (.seq
 (.region [
 ⟨(some 10), none, .ixaddr 1, [.slot 6, .slot 8], none⟩,
 ⟨(some 11), none, .load 1 false, [.slot 10], none⟩,
 ⟨(some 5), none, .id, [.slot 11], none⟩])
 (.seq
 (.region [
 ⟨(some 12), none, .id, [.slot 5], none⟩,
 ⟨(some 13), none, .id, [.slot 3], none⟩,
 ⟨(some 14), none, .bin .neq, [.slot 12, .slot 13], none⟩])
 (.cond (.slot 14)
 (.seq
 (.region [
 ⟨(some 15), none, .id, [.slot 5], none⟩,
 ⟨(some 2), none, .id, [.slot 15], none⟩])
 (.ret))
 (.skip)))))
 (.region [
 ⟨(some 16), none, .bin .add, [.slot 8, .val (.int .i64 1)], none⟩,
 ⟨(some 8), none, .id, [.slot 16], none⟩])))
def b_cmp_Orint : ICode :=
 .seq
 (.region [
 ⟨(some 2), none, .id, [.val (.int .i64 0)], none⟩])
 (.seq
 (.region [
 ⟨(some 3), none, .id, [.val (.int .i64 0)], none⟩])
 (.seq
 (.seq
 (.region [
 ⟨(some 6), none, .id, [.slot 0], none⟩,
 ⟨(some 7), none, .lensl, [.slot 6], none⟩,
 ⟨(some 8), none, .id, [.val (.int .i64 0)], none⟩])
 (.block 0
 (.loop L0_cmp_Orint)))
 (.seq
 (.region [
 ⟨(some 17), none, .id, [.slot 3], none⟩,
 ⟨(some 2), none, .id, [.slot 17], none⟩])
 (.ret))))
def F_cmp_Orint : IFun := ⟨18, [.slot 2], b_cmp_Orint, 3, 0, nofn⟩
theorem c_cmp_Orint : cFun Tryz.prog [] 0 f_cmp_Orint = some F_cmp_Orint := by kernel_rfl

def b_cmp_Compareint : ICode :=
 .seq
 (.region [
 ⟨(some 4), none, .id, [.val (.int .i64 0)], none⟩])
 (.seq
 (.region [
 ⟨(some 7), none, .id, [.slot 0], none⟩,
 ⟨(some 8), none, .call f_cmp_isNaNint, [.slot 7], none⟩,
 ⟨(some 5), none, .id, [.slot 8], none⟩])
 (.seq
 (.region [
 ⟨(some 9), none, .id, [.slot 1], none⟩,
 ⟨(some 10), none, .call f_cmp_isNaNint, [.slot 9], none⟩,
 ⟨(some 6), none, .id, [.slot 10], none⟩])
 (.seq
 (.seq
 (.region [
 ⟨(some 11), none, .id, [.slot 5], none⟩])
 (.cond (.slot 11)
 (.seq
 (.seq
 (.region [
 ⟨(some 12), none, .id, [.slot 6], none⟩])
 (.cond (.slot 12)
 (.seq
 (.region [
 ⟨(some 4), none, .id, [.val (.int .i64 0)], none⟩])
 (.ret))
 (.skip)))
 (.seq
 (.region [
 ⟨(some 4), none, .id, [.val (.int .i64 (-1))], none⟩])
 (.ret)))
 (.skip)))
 (.seq
 (.seq
 (.region [
 ⟨(some 13), none, .id, [.slot 6], none⟩])
 (.cond (.slot 13)
 (.seq
 (.region [
 ⟨(some 4), none, .id, [.val (.int .i64 1)], none⟩])
 (.ret))
 (.skip)))
 (.seq
 (.seq
 (.region [
 ⟨(some 14), none, .id, [.slot 0], none⟩,
 ⟨(some 15), none, .id, [.slot 1], none⟩,
 ⟨(some 16), none, .bin .lss, [.slot 14, .slot 15], none⟩])
 (.cond (.slot 16)
 (.seq
 (.region [
 ⟨(some 4), none, .id, [.val (.int .i64 (-1))], none⟩])
 (.ret))
 (.skip)))
 (.seq
 (.seq
 (.region [
 ⟨(some 17), none, .id, [.slot 0], none⟩,
 ⟨(some 18), none, .id, [.slot 1], none⟩,
 ⟨(some 19), none, .bin .gtr, [.slot 17, .slot 18], none⟩])
 (.cond (.slot 19)
 (.seq
 (.region [
 ⟨(some 4), none, .id, [.val (.int .i64 1)], none⟩])
 (.ret))
 (.skip)))
 (.seq
 (.region [
 ⟨(some 4), none, .id, [.val (.int .i64 0)], none⟩])
 (.ret))))))))
def F_cmp_Compareint : IFun := ⟨20, [.slot 4], b_cmp_Compareint, 3, 0, nofn⟩
theorem c_cmp_Compareint : cFun Tryz.prog [] 0 f_cmp_Compareint = some F_cmp_Compareint := by kernel_rfl

def b_cmp_Comparestring : ICode :=
 .seq
 (.region [
 ⟨(some 4), none, .id, [.val (.int .i64 0)], none⟩])
 (.seq
 (.region [
 ⟨(some 7), none, .id, [.slot 0], none⟩,
 ⟨(some 8), none, .call f_cmp_isNaNstring, [.slot 7], none⟩,
 ⟨(some 5), none, .id, [.slot 8], none⟩])
 (.seq
 (.region [
 ⟨(some 9), none, .id, [.slot 1], none⟩,
 ⟨(some 10), none, .call f_cmp_isNaNstring, [.slot 9], none⟩,
 ⟨(some 6), none, .id, [.slot 10], none⟩])
 (.seq
 (.seq
 (.region [
 ⟨(some 11), none, .id, [.slot 5], none⟩])
 (.cond (.slot 11)
 (.seq
 (.seq
 (.region [
 ⟨(some 12), none, .id, [.slot 6], none⟩])
 (.cond (.slot 12)
 (.seq
 (.region [
 ⟨(some 4), none, .id, [.val (.int .i64 0)], none⟩])
 (.ret))
 (.skip)))
 (.seq
 (.region [
 ⟨(some 4), none, .id, [.val (.int .i64 (-1))], none⟩])
 (.ret)))
 (.skip)))
 (.seq
 (.seq
 (.region [
 ⟨(some 13), none, .id, [.slot 6], none⟩])
 (.cond (.slot 13)
 (.seq
 (.region [
 ⟨(some 4), none, .id, [.val (.int .i64 1)], none⟩])
 (.ret))
 (.skip)))
 (.seq
 (.seq
 (.region [
 ⟨(some 14), none, .id, [.slot 0], none⟩,
 ⟨(some 15), none, .id, [.slot 1], none⟩,
 ⟨(some 16), none, .bin .lss, [.slot 14, .slot 15], none⟩])
 (.cond (.slot 16)
 (.seq
 (.region [
 ⟨(some 4), none, .id, [.val (.int .i64 (-1))], none⟩])
 (.ret))
 (.skip)))
 (.seq
 (.seq
 (.region [
 ⟨(some 17), none, .id, [.slot 0], none⟩,
 ⟨(some 18), none, .id, [.slot 1], none⟩,
 ⟨(some 19), none, .bin .gtr, [.slot 17, .slot 18], none⟩])
 (.cond (.slot 19)
 (.seq
 (.region [
 ⟨(some 4), none, .id, [.val (.int .i64 1)], none⟩])
 (.ret))
 (.skip)))
 (.seq
 (.region [
 ⟨(some 4), none, .id, [.val (.int .i64 0)], none⟩])
 (.ret))))))))
def F_cmp_Comparestring : IFun := ⟨20, [.slot 4], b_cmp_Comparestring, 3, 0, nofn⟩
theorem c_cmp_Comparestring : cFun Tryz.prog [] 0 f_cmp_Comparestring = some F_cmp_Comparestring := by kernel_rfl

def b_hedgerowref06_Change : ICode :=
 .seq
 (.region [
 ⟨(some 1), none, .boxL, [.slot 0], none⟩,
 ⟨(some 2), none, .id, [.val (.bool false)], none⟩])
 (.seq
 (.seq
 (.region [
 ⟨(some 5), none, .faddr 1, [.slot 1], none⟩,
 ⟨(some 6), none, .load 5 true, [.slot 5], none⟩,
 ⟨(some 7), none, .call f_hedgerowref01_Elem, [.slot 6], none⟩,
 ⟨(some 8), none, .un .not, [.slot 7], none⟩])
 (.cond (.slot 8)
 (.seq
 (.region [
 ⟨(some 2), none, .id, [.val (.bool false)], none⟩])
 (.ret))
 (.skip)))
 (.seq
 (.region [
 ⟨(some 9), none, .faddr 1, [.slot 1], none⟩,
 ⟨(some 10), none, .faddr 0, [.slot 9], none⟩,
 ⟨(some 11), none, .load 1 false, [.slot 10], none⟩,
 ⟨(some 12), none, .bin .geq, [.slot 11, .val (.int .i64 4)], none⟩,
 ⟨(some 3), none, .id, [.slot 12], none⟩])
 (.seq
 (.region [
 ⟨(some 13), none, .faddr 6, [.slot 1], none⟩,
 ⟨(some 14), none, .load 3 true, [.slot 13], none⟩,
 ⟨(some 15), none, .build [(.int .i64 0), (.int .i64 0), (.str ⟨#[]⟩)] [], [], none⟩,
 ⟨(some 16), none, .eqv false [(.int .i64), (.int .i64), .str], [.slot 14, .slot 15], none⟩,
 ⟨(some 4), none, .id, [.slot 16], none⟩])
 (.seq
 (.seq
 (.region [
 ⟨(some 17), none, .faddr 0, [.slot 1], none⟩,
 ⟨(some 18), none, .load 1 false, [.slot 17], none⟩])
 (.block 0
 (.seq
 (.seq
 (.region [
 ⟨(some 20), none, .bin .eql, [.slot 18, .val (.int .i64 1)], none⟩,
 ⟨(some 19), none, .id, [.slot 20], none⟩])
 (.cond (.slot 19)
 (.skip)
 (.region [
 ⟨(some 21), none, .bin .eql, [.slot 18, .val (.int .i64 2)], none⟩,
 ⟨(some 19), none, .id, [.slot 21], none⟩])))
 (.cond (.slot 19)
 (.seq
 (.region [
 ⟨(some 22), none, .id, [.slot 3], none⟩,
 ⟨(some 23), none, .un .not, [.slot 22], none⟩,
 ⟨(some 24), none, .id, [.slot 23], none⟩,
 ⟨(some 25), (some (24, true)), .id, [.slot 4], none⟩,
 ⟨(some 26), none, .pick, [.slot 24, .slot 25, .val (.bool false)], none⟩,
 ⟨(some 2), none, .id, [.slot 26], none⟩])
 (.ret))
 (.seq
 (.region [
 ⟨(some 28), none, .bin .eql, [.slot 18, .val (.int .i64 3)], none⟩,
 ⟨(some 27), none, .id, [.slot 28], none⟩])
 (.cond (.slot 27)
 (.seq
 (.region [
 ⟨(some 29), none, .id, [.slot 3], none⟩,
 ⟨(some 30), none, .id, [.slot 29], none⟩,
 ⟨(some 31), (some (30, true)), .faddr 6, [.slot 1], none⟩,
 ⟨(some 32), (some (30, true)), .faddr 0, [.slot 31], none⟩,
 ⟨(some 33), (some (30, true)), .load 1 false, [.slot 32], none⟩,
 ⟨(some 34), (some (30, true)), .bin .geq, [.slot 33, .val (.int .i64 1)], none⟩,
 ⟨(some 35), none, .pick, [.slot 30, .slot 34, .val (.bool false)], none⟩,
 ⟨(some 36), none, .id, [.slot 35], none⟩,
 ⟨(some 37), (some (36, true)), .faddr 6, [.slot 1], none⟩,
 ⟨(some 38), (some (36, true)), .faddr 0, [.slot 37], none⟩,
 ⟨(some 39), (some (36, true)), .load 1 false, [.slot 38], none⟩,
 ⟨(some 40), (some (36, true)), .bin .leq, [.slot 39, .val (.int .i64 3)], none⟩,
 ⟨(some 41), none, .pick, [.slot 36, .slot 40, .val (.bool false)], none⟩,
 ⟨(some 42), none, .id, [.slot 41], none⟩,
 ⟨(some 43), (some (42, true)), .faddr 6, [.slot 1], none⟩,
 ⟨(some 44), (some (42, true)), .load 3 true, [.slot 43], none⟩,
 ⟨(some 45), (some (42, true)), .call f_hedgerowref01_Right, [.slot 44], none⟩,
 ⟨(some 46), none, .pick, [.slot 42, .slot 45, .val (.bool false)], none⟩,
 ⟨(some 2), none, .id, [.slot 46], none⟩])
 (.ret))
 (.seq
 (.region [
 ⟨(some 48), none, .bin .eql, [.slot 18, .val (.int .i64 4)], none⟩,
 ⟨(some 47), none, .id, [.slot 48], none⟩])
 (.cond (.slot 47)
 (.seq
 (.region [
 ⟨(some 49), none, .id, [.slot 3], none⟩,
 ⟨(some 50), none, .id, [.slot 49], none⟩,
 ⟨(some 51), (some (50, true)), .id, [.slot 4], none⟩,
 ⟨(some 52), none, .pick, [.slot 50, .slot 51, .val (.bool false)], none⟩,
 ⟨(some 2), none, .id, [.slot 52], none⟩])
 (.ret))
 (.skip)))))))))
 (.seq
 (.region [
 ⟨(some 2), none, .id, [.val (.bool false)], none⟩])
 (.ret))))))
def F_hedgerowref06_Change : IFun := ⟨53, [.slot 2], b_hedgerowref06_Change, 3, 0, nofn⟩
theorem c_hedgerowref06_Change : cFun Tryz.prog [1048577] 0 f_hedgerowref06_Change = some F_hedgerowref06_Change := by kernel_rfl

def b_vector_Next : ICode :=
 .seq
 (.region [
 ⟨(some 2), none, .boxL, [.slot 0], none⟩,
 ⟨(some 3), none, .boxL, [.slot 1], none⟩,
 ⟨(some 4), none, .id, [.val (.bool false)], none⟩])
 (.seq
 (.region [
 ⟨(some 5), none, .load 2 true, [.slot 3], (some (.loc 3))⟩,
 ⟨(some 6), none, .call f_vector_Dot, [.slot 5], none⟩,
 ⟨(some 7), none, .id, [.slot 6], none⟩,
 ⟨(some 8), (some (7, true)), .faddr 0, [.slot 3], none⟩,
 ⟨(some 9), (some (7, true)), .load 1 false, [.slot 8], (some (.loc 3))⟩,
 ⟨(some 10), (some (7, true)), .ixaddrA 16 1, [.slot 2, .slot 9], none⟩,
 ⟨(some 11), (some (7, true)), .load 1 false, [.slot 10], (some (.loc 2))⟩,
 ⟨(some 12), (some (7, true)), .faddr 1, [.slot 3], none⟩,
 ⟨(some 13), (some (7, true)), .load 1 false, [.slot 12], (some (.loc 3))⟩,
 ⟨(some 14), (some (7, true)), .bin .sub, [.slot 13, .val (.int .i64 1)], none⟩,
 ⟨(some 15), (some (7, true)), .bin .eql, [.slot 11, .slot 14], none⟩,
 ⟨(some 16), none, .pick, [.slot 7, .slot 15, .val (.bool false)], none⟩,
 ⟨(some 4), none, .id, [.slot 16], none⟩])
 (.ret))
def F_vector_Next : IFun := ⟨17, [.slot 4], b_vector_Next, 3, 0, nofn⟩
theorem c_vector_Next : cFun Tryz.prog [1048578, 1048579] 0 f_vector_Next = some F_vector_Next := by kernel_rfl

def L0_vector_Right : ICode :=
 .seq
 (.region [
 ⟨(some 7), none, .bin .lss, [.slot 6, .val (.int .i64 16)], none⟩])
 (.seq
 (.cond (.slot 7)
 (.skip)
 (.exit 0))
 (.seq
 (.block 1
 (.seq
 (.region [
 ⟨(some 8), none, .ixarr 16 1 false, [.slot 5, .slot 6], none⟩,
 ⟨(some 4), none, .id, [.slot 8], none⟩])
 (.seq
 (.region [
 ⟨(some 9), none, .id, [.slot 4], none⟩,
 ⟨(some 10), none, .bin .lss, [.slot 9, .val (.int .i64 0)], none⟩,
 ⟨(some 11), none, .id, [.slot 10], none⟩,
 ⟨(some 12), (some (11, false)), .id, [.slot 4], none⟩,
 ⟨(some 13), (some (11, false)), .bin .gtr, [.slot 12, .val (.int .i64 1048576)], none⟩,
 ⟨(some 14), none, .pick, [.slot 11, .val (.bool true), .slot 13], none⟩])
 (.cond (.slot 14)
 (.seq
 (.region [
 ⟨(some 2), none, .id, [.val (.bool false)], none⟩])
 (.ret))
 (.skip)))))
 (.region [
 ⟨(some 15), none, .bin .add, [.slot 6, .val (.int .i64 1)], none⟩,
 ⟨(some 6), none, .id, [.slot 15], none⟩])))
def b_vector_Right : ICode :=
 .seq
 (.region [
 ⟨(some 1), none, .boxL, [.slot 0], none⟩,
 ⟨(some 2), none, .id, [.val (.bool false)], none⟩])
 (.seq
 (.seq
 (.region [
 ⟨(some 5), none, .load 16 true, [.slot 1], none⟩,
 ⟨(some 6), none, .id, [.val (.int .i64 0)], none⟩])
 (.block 0
 (.loop L0_vector_Right)))
 (.seq
 (.region [
 ⟨(some 2), none, .id, [.val (.bool true)], none⟩])
 (.ret)))
def F_vector_Right : IFun := ⟨16, [.slot 2], b_vector_Right, 3, 0, nofn⟩
theorem c_vector_Right : cFun Tryz.prog [1048577] 0 f_vector_Right = some F_vector_Right := by kernel_rfl

def b_event_Change : ICode :=
 .seq
 (.region [
 ⟨(some 1), none, .boxL, [.slot 0], none⟩,
 ⟨(some 2), none, .id, [.val (.int .i64 0)], none⟩])
 (.seq
 (.seq
 (.region [
 ⟨(some 3), none, .load 9 true, [.slot 1], none⟩,
 ⟨(some 4), none, .call f_event_may, [.slot 3], none⟩,
 ⟨(some 5), none, .un .not, [.slot 4], none⟩])
 (.cond (.slot 5)
 (.seq
 (.region [
 ⟨(some 2), none, .id, [.val (.int .i64 1)], none⟩])
 (.ret))
 (.skip)))
 (.seq
 (.region [
 ⟨(some 2), none, .id, [.val (.int .i64 0)], none⟩])
 (.ret)))
def F_event_Change : IFun := ⟨6, [.slot 2], b_event_Change, 3, 0, nofn⟩
theorem c_event_Change : cFun Tryz.prog [1048577] 0 f_event_Change = some F_event_Change := by kernel_rfl

def b_event_Of : ICode :=
 .seq
 (.region [
 ⟨(some 1), none, .boxL, [.slot 0], none⟩,
 ⟨(some 2), none, .allocL [(.int .i64 0), (.int .i64 0), (.str ⟨#[]⟩), (.str ⟨#[]⟩), (.str ⟨#[]⟩), (.str ⟨#[]⟩), (.int .i64 0), (.int .i64 0), (.str ⟨#[]⟩)], [], none⟩])
 (.seq
 (.region [
 ⟨(some 3), none, .faddr 18, [.slot 1], none⟩,
 ⟨(some 4), none, .load 1 false, [.slot 3], none⟩,
 ⟨(some 5), none, .faddr 19, [.slot 1], none⟩,
 ⟨(some 6), none, .load 5 true, [.slot 5], none⟩,
 ⟨(some 7), none, .faddr 24, [.slot 1], none⟩,
 ⟨(some 8), none, .load 3 true, [.slot 7], none⟩,
 ⟨(some 9), none, .build [(.int .i64 0), (.int .i64 0), (.str ⟨#[]⟩), (.str ⟨#[]⟩), (.str ⟨#[]⟩), (.str ⟨#[]⟩), (.int .i64 0), (.int .i64 0), (.str ⟨#[]⟩)] [(0, 1), (1, 5), (6, 3)], [.slot 4, .slot 6, .slot 8], none⟩,
 ⟨none, none, .store 9, [.slot 2, .slot 9], none⟩])
 (.ret))
def F_event_Of : IFun := ⟨10, [.cell 2 9 true], b_event_Of, 3, 0, nofn⟩
theorem c_event_Of : cFun Tryz.prog [1048577, 1048578] 0 f_event_Of = some F_event_Of := by kernel_rfl

def L0_slices_IndexFuncstore_Entrystore_Entry : ICode :=
 .seq
 (.region [
 ⟨(some 9), none, .bin .lss, [.slot 8, .slot 7], none⟩])
 (.seq
 (.cond (.slot 9)
 (.skip)
 (.exit 0))
 (.seq
 (.block 1
 (.seq
 (.region [
 ⟨(some 10), none, .id, [.slot 8], none⟩,
 ⟨(some 5), none, .id, [.slot 10], none⟩])
 (.seq
 (.region [
 ⟨(some 11), none, .id, [.slot 1], none⟩,
 ⟨(some 12), none, .id, [.slot 0], none⟩,
 ⟨(some 13), none, .id, [.slot 5], none⟩,
 ⟨(some 14), none, .ixaddr 5, [.slot 12, .slot 13], none⟩,
 ⟨(some 15), none, .load 5 true, [.slot 14], none⟩,
 ⟨(some 16), none, .callv, [.slot 11, .slot 15], none⟩])
 (.cond (.slot 16)
 (.seq
 (.region [
 ⟨(some 17), none, .id, [.slot 5], none⟩,
 ⟨(some 4), none, .id, [.slot 17], none⟩])
 (.ret))
 (.skip)))))
 (.region [
 ⟨(some 18), none, .bin .add, [.slot 8, .val (.int .i64 1)], none⟩,
 ⟨(some 8), none, .id, [.slot 18], none⟩])))
def b_slices_IndexFuncstore_Entrystore_Entry : ICode :=
 .seq
 (.region [
 ⟨(some 4), none, .id, [.val (.int .i64 0)], none⟩])
 (.seq
 (.seq
 (.region [
 ⟨(some 6), none, .id, [.slot 0], none⟩,
 ⟨(some 7), none, .lensl, [.slot 6], none⟩,
 ⟨(some 8), none, .id, [.val (.int .i64 0)], none⟩])
 (.block 0
 (.loop L0_slices_IndexFuncstore_Entrystore_Entry)))
 (.seq
 (.region [
 ⟨(some 4), none, .id, [.val (.int .i64 (-1))], none⟩])
 (.ret)))
def F_slices_IndexFuncstore_Entrystore_Entry : IFun := ⟨19, [.slot 4], b_slices_IndexFuncstore_Entrystore_Entry, 3, 0, nofn⟩
theorem c_slices_IndexFuncstore_Entrystore_Entry : cFun Tryz.prog [] 0 f_slices_IndexFuncstore_Entrystore_Entry = some F_slices_IndexFuncstore_Entrystore_Entry := by kernel_rfl

def b_vector_Dot : ICode :=
 .seq
 (.region [
 ⟨(some 1), none, .boxL, [.slot 0], none⟩,
 ⟨(some 2), none, .id, [.val (.bool false)], none⟩])
 (.seq
 (.region [
 ⟨(some 3), none, .faddr 0, [.slot 1], none⟩,
 ⟨(some 4), none, .load 1 false, [.slot 3], none⟩,
 ⟨(some 5), none, .bin .geq, [.slot 4, .val (.int .i64 0)], none⟩,
 ⟨(some 6), none, .id, [.slot 5], none⟩,
 ⟨(some 7), (some (6, true)), .faddr 0, [.slot 1], none⟩,
 ⟨(some 8), (some (6, true)), .load 1 false, [.slot 7], none⟩,
 ⟨(some 9), (some (6, true)), .bin .lss, [.slot 8, .val (.int .i64 16)], none⟩,
 ⟨(some 10), none, .pick, [.slot 6, .slot 9, .val (.bool false)], none⟩,
 ⟨(some 11), none, .id, [.slot 10], none⟩,
 ⟨(some 12), (some (11, true)), .faddr 1, [.slot 1], none⟩,
 ⟨(some 13), (some (11, true)), .load 1 false, [.slot 12], none⟩,
 ⟨(some 14), (some (11, true)), .bin .geq, [.slot 13, .val (.int .i64 1)], none⟩,
 ⟨(some 15), none, .pick, [.slot 11, .slot 14, .val (.bool false)], none⟩,
 ⟨(some 16), none, .id, [.slot 15], none⟩,
 ⟨(some 17), (some (16, true)), .faddr 1, [.slot 1], none⟩,
 ⟨(some 18), (some (16, true)), .load 1 false, [.slot 17], none⟩,
 ⟨(some 19), (some (16, true)), .bin .leq, [.slot 18, .val (.int .i64 1048576)], none⟩,
 ⟨(some 20), none, .pick, [.slot 16, .slot 19, .val (.bool false)], none⟩,
 ⟨(some 2), none, .id, [.slot 20], none⟩])
 (.ret))
def F_vector_Dot : IFun := ⟨21, [.slot 2], b_vector_Dot, 3, 0, nofn⟩
theorem c_vector_Dot : cFun Tryz.prog [1048577] 0 f_vector_Dot = some F_vector_Dot := by kernel_rfl

def L0_value_names : ICode :=
 .seq
 (.region [
 ⟨(some 8), none, .bin .lss, [.slot 7, .slot 6], none⟩])
 (.seq
 (.cond (.slot 8)
 (.skip)
 (.exit 0))
 (.seq
 (.block 1
 (.seq
 (.region [
 ⟨(some 9), none, .ixaddr 1, [.slot 5, .slot 7], none⟩,
 ⟨(some 10), none, .load 1 false, [.slot 9], none⟩,
 ⟨(some 4), none, .id, [.slot 10], none⟩])
 (.seq
 (.region [
 ⟨(some 11), none, .id, [.slot 4], none⟩,
 ⟨(some 12), none, .call f_value_Name, [.slot 11], none⟩,
 ⟨(some 13), none, .un .not, [.slot 12], none⟩])
 (.cond (.slot 13)
 (.seq
 (.region [
 ⟨(some 2), none, .id, [.val (.bool false)], none⟩])
 (.ret))
 (.skip)))))
 (.region [
 ⟨(some 14), none, .bin .add, [.slot 7, .val (.int .i64 1)], none⟩,
 ⟨(some 7), none, .id, [.slot 14], none⟩])))
def b_value_names : ICode :=
 .seq
 (.region [
 ⟨(some 2), none, .id, [.val (.bool false)], none⟩])
 (.seq
 (.seq
 (.region [
 ⟨(some 5), none, .id, [.slot 0], none⟩,
 ⟨(some 6), none, .lensl, [.slot 5], none⟩,
 ⟨(some 7), none, .id, [.val (.int .i64 0)], none⟩])
 (.block 0
 (.loop L0_value_names)))
 (.seq
 (.region [
 ⟨(some 2), none, .id, [.val (.bool true)], none⟩])
 (.ret)))
def F_value_names : IFun := ⟨15, [.slot 2], b_value_names, 3, 0, nofn⟩
theorem c_value_names : cFun Tryz.prog [] 0 f_value_names = some F_value_names := by kernel_rfl

def b_value_empty : ICode :=
 .seq
 (.region [
 ⟨(some 2), none, .id, [.val (.bool false)], none⟩])
 (.seq
 (.region [
 ⟨(some 3), none, .id, [.slot 0], none⟩,
 ⟨(some 4), none, .call f_strings_Join, [.slot 3, .val (.str ⟨#[]⟩)], none⟩,
 ⟨(some 5), none, .bin .eql, [.slot 4, .val (.str ⟨#[]⟩)], none⟩,
 ⟨(some 2), none, .id, [.slot 5], none⟩])
 (.ret))
def F_value_empty : IFun := ⟨6, [.slot 2], b_value_empty, 3, 0, nofn⟩
theorem c_value_empty : cFun Tryz.prog [2097263] 0 f_value_empty = some F_value_empty := by kernel_rfl

def b_cmp_isNaNint : ICode :=
 .seq
 (.region [
 ⟨(some 2), none, .id, [.val (.bool false)], none⟩])
 (.seq
 (.region [
 ⟨(some 3), none, .id, [.slot 0], none⟩,
 ⟨(some 4), none, .id, [.slot 0], none⟩,
 ⟨(some 5), none, .bin .neq, [.slot 3, .slot 4], none⟩,
 ⟨(some 2), none, .id, [.slot 5], none⟩])
 (.ret))
def F_cmp_isNaNint : IFun := ⟨6, [.slot 2], b_cmp_isNaNint, 3, 0, nofn⟩
theorem c_cmp_isNaNint : cFun Tryz.prog [] 0 f_cmp_isNaNint = some F_cmp_isNaNint := by kernel_rfl

def b_cmp_isNaNstring : ICode :=
 .seq
 (.region [
 ⟨(some 2), none, .id, [.val (.bool false)], none⟩])
 (.seq
 (.region [
 ⟨(some 3), none, .id, [.slot 0], none⟩,
 ⟨(some 4), none, .id, [.slot 0], none⟩,
 ⟨(some 5), none, .bin .neq, [.slot 3, .slot 4], none⟩,
 ⟨(some 2), none, .id, [.slot 5], none⟩])
 (.ret))
def F_cmp_isNaNstring : IFun := ⟨6, [.slot 2], b_cmp_isNaNstring, 3, 0, nofn⟩
theorem c_cmp_isNaNstring : cFun Tryz.prog [] 0 f_cmp_isNaNstring = some F_cmp_isNaNstring := by kernel_rfl

def b_hedgerowref01_Elem : ICode :=
 .seq
 (.region [
 ⟨(some 1), none, .boxL, [.slot 0], none⟩,
 ⟨(some 2), none, .id, [.val (.bool false)], none⟩])
 (.seq
 (.region [
 ⟨(some 7), none, .faddr 1, [.slot 1], none⟩,
 ⟨(some 8), none, .load 1 false, [.slot 7], (some (.loc 1))⟩,
 ⟨(some 9), none, .call f_hedgerowref01_Name, [.slot 8], none⟩,
 ⟨(some 10), none, .faddr 2, [.slot 1], none⟩,
 ⟨(some 11), none, .load 1 false, [.slot 10], (some (.loc 1))⟩,
 ⟨(some 12), none, .call f_hedgerowref01_Name, [.slot 11], none⟩,
 ⟨(some 13), none, .faddr 3, [.slot 1], none⟩,
 ⟨(some 14), none, .load 1 false, [.slot 13], (some (.loc 1))⟩,
 ⟨(some 15), none, .call f_hedgerowref01_Name, [.slot 14], none⟩,
 ⟨(some 16), none, .faddr 4, [.slot 1], none⟩,
 ⟨(some 17), none, .load 1 false, [.slot 16], (some (.loc 1))⟩,
 ⟨(some 18), none, .call f_hedgerowref01_Name, [.slot 17], none⟩,
 ⟨(some 3), none, .id, [.slot 9], none⟩,
 ⟨(some 4), none, .id, [.slot 12], none⟩,
 ⟨(some 5), none, .id, [.slot 15], none⟩,
 ⟨(some 6), none, .id, [.slot 18], none⟩])
 (.seq
 (.seq
 (.region [
 ⟨(some 19), none, .faddr 0, [.slot 1], none⟩,
 ⟨(some 20), none, .load 1 false, [.slot 19], none⟩])
 (.block 0
 (.seq
 (.region [
 ⟨(some 22), none, .bin .eql, [.slot 20, .val (.int .i64 1)], none⟩,
 ⟨(some 21), none, .id, [.slot 22], none⟩])
 (.cond (.slot 21)
 (.seq
 (.region [
 ⟨(some 23), none, .id, [.slot 3], none⟩,
 ⟨(some 24), none, .id, [.slot 23], none⟩,
 ⟨(some 25), (some (24, true)), .faddr 2, [.slot 1], none⟩,
 ⟨(some 26), (some (24, true)), .load 1 false, [.slot 25], none⟩,
 ⟨(some 27), (some (24, true)), .bin .eql, [.slot 26, .val (.str ⟨#[]⟩)], none⟩,
 ⟨(some 28), none, .pick, [.slot 24, .slot 27, .val (.bool false)], none⟩,
 ⟨(some 29), none, .id, [.slot 28], none⟩,
 ⟨(some 30), (some (29, true)), .faddr 3, [.slot 1], none⟩,
 ⟨(some 31), (some (29, true)), .load 1 false, [.slot 30], none⟩,
 ⟨(some 32), (some (29, true)), .bin .eql, [.slot 31, .val (.str ⟨#[]⟩)], none⟩,
 ⟨(some 33), none, .pick, [.slot 29, .slot 32, .val (.bool false)], none⟩,
 ⟨(some 34), none, .id, [.slot 33], none⟩,
 ⟨(some 35), (some (34, true)), .faddr 4, [.slot 1], none⟩,
 ⟨(some 36), (some (34, true)), .load 1 false, [.slot 35], none⟩,
 ⟨(some 37), (some (34, true)), .bin .eql, [.slot 36, .val (.str ⟨#[]⟩)], none⟩,
 ⟨(some 38), none, .pick, [.slot 34, .slot 37, .val (.bool false)], none⟩,
 ⟨(some 2), none, .id, [.slot 38], none⟩])
 (.ret))
 (.seq
 (.seq
 (.region [
 ⟨(some 40), none, .bin .eql, [.slot 20, .val (.int .i64 2)], none⟩,
 ⟨(some 39), none, .id, [.slot 40], none⟩])
 (.cond (.slot 39)
 (.skip)
 (.region [
 ⟨(some 41), none, .bin .eql, [.slot 20, .val (.int .i64 4)], none⟩,
 ⟨(some 39), none, .id, [.slot 41], none⟩])))
 (.cond (.slot 39)
 (.seq
 (.region [
 ⟨(some 42), none, .id, [.slot 3], none⟩,
 ⟨(some 43), none, .id, [.slot 42], none⟩,
 ⟨(some 44), (some (43, true)), .faddr 2, [.slot 1], none⟩,
 ⟨(some 45), (some (43, true)), .load 1 false, [.slot 44], none⟩,
 ⟨(some 46), (some (43, true)), .bin .eql, [.slot 45, .val (.str ⟨#[]⟩)], none⟩,
 ⟨(some 47), none, .pick, [.slot 43, .slot 46, .val (.bool false)], none⟩,
 ⟨(some 48), none, .id, [.slot 47], none⟩,
 ⟨(some 49), (some (48, true)), .faddr 3, [.slot 1], none⟩,
 ⟨(some 50), (some (48, true)), .load 1 false, [.slot 49], none⟩,
 ⟨(some 51), (some (48, true)), .bin .eql, [.slot 50, .val (.str ⟨#[]⟩)], none⟩,
 ⟨(some 52), none, .pick, [.slot 48, .slot 51, .val (.bool false)], none⟩,
 ⟨(some 53), none, .id, [.slot 52], none⟩,
 ⟨(some 54), (some (53, true)), .id, [.slot 6], none⟩,
 ⟨(some 55), none, .pick, [.slot 53, .slot 54, .val (.bool false)], none⟩,
 ⟨(some 2), none, .id, [.slot 55], none⟩])
 (.ret))
 (.seq
 (.region [
 ⟨(some 57), none, .bin .eql, [.slot 20, .val (.int .i64 3)], none⟩,
 ⟨(some 56), none, .id, [.slot 57], none⟩])
 (.cond (.slot 56)
 (.seq
 (.region [
 ⟨(some 58), none, .id, [.slot 3], none⟩,
 ⟨(some 59), none, .id, [.slot 58], none⟩,
 ⟨(some 60), (some (59, true)), .id, [.slot 4], none⟩,
 ⟨(some 61), none, .pick, [.slot 59, .slot 60, .val (.bool false)], none⟩,
 ⟨(some 62), none, .id, [.slot 61], none⟩,
 ⟨(some 63), (some (62, true)), .id, [.slot 5], none⟩,
 ⟨(some 64), none, .pick, [.slot 62, .slot 63, .val (.bool false)], none⟩,
 ⟨(some 65), none, .id, [.slot 64], none⟩,
 ⟨(some 66), (some (65, true)), .faddr 4, [.slot 1], none⟩,
 ⟨(some 67), (some (65, true)), .load 1 false, [.slot 66], none⟩,
 ⟨(some 68), (some (65, true)), .bin .eql, [.slot 67, .val (.str ⟨#[]⟩)], none⟩,
 ⟨(some 69), none, .pick, [.slot 65, .slot 68, .val (.bool false)], none⟩,
 ⟨(some 2), none, .id, [.slot 69], none⟩])
 (.ret))
 (.seq
 (.region [
 ⟨(some 71), none, .bin .eql, [.slot 20, .val (.int .i64 5)], none⟩,
 ⟨(some 70), none, .id, [.slot 71], none⟩])
 (.cond (.slot 70)
 (.seq
 (.region [
 ⟨(some 72), none, .id, [.slot 3], none⟩,
 ⟨(some 73), none, .id, [.slot 72], none⟩,
 ⟨(some 74), (some (73, true)), .id, [.slot 4], none⟩,
 ⟨(some 75), none, .pick, [.slot 73, .slot 74, .val (.bool false)], none⟩,
 ⟨(some 76), none, .id, [.slot 75], none⟩,
 ⟨(some 77), (some (76, true)), .id, [.slot 5], none⟩,
 ⟨(some 78), none, .pick, [.slot 76, .slot 77, .val (.bool false)], none⟩,
 ⟨(some 79), none, .id, [.slot 78], none⟩,
 ⟨(some 80), (some (79, true)), .id, [.slot 6], none⟩,
 ⟨(some 81), none, .pick, [.slot 79, .slot 80, .val (.bool false)], none⟩,
 ⟨(some 2), none, .id, [.slot 81], none⟩])
 (.ret))
 (.skip)))))))))))
 (.seq
 (.region [
 ⟨(some 2), none, .id, [.val (.bool false)], none⟩])
 (.ret))))
def F_hedgerowref01_Elem : IFun := ⟨82, [.slot 2], b_hedgerowref01_Elem, 3, 0, nofn⟩
theorem c_hedgerowref01_Elem : cFun Tryz.prog [1048577] 0 f_hedgerowref01_Elem = some F_hedgerowref01_Elem := by kernel_rfl

def b_hedgerowref01_Right : ICode :=
 .seq
 (.region [
 ⟨(some 1), none, .boxL, [.slot 0], none⟩,
 ⟨(some 2), none, .id, [.val (.bool false)], none⟩])
 (.seq
 (.seq
 (.region [
 ⟨(some 5), none, .faddr 0, [.slot 1], none⟩,
 ⟨(some 6), none, .load 1 false, [.slot 5], none⟩])
 (.block 0
 (.seq
 (.region [
 ⟨(some 8), none, .bin .eql, [.slot 6, .val (.int .i64 0)], none⟩,
 ⟨(some 7), none, .id, [.slot 8], none⟩])
 (.cond (.slot 7)
 (.seq
 (.region [
 ⟨(some 9), none, .faddr 1, [.slot 1], none⟩,
 ⟨(some 10), none, .load 1 false, [.slot 9], none⟩,
 ⟨(some 11), none, .bin .eql, [.slot 10, .val (.int .i64 0)], none⟩,
 ⟨(some 12), none, .id, [.slot 11], none⟩,
 ⟨(some 13), (some (12, true)), .faddr 2, [.slot 1], none⟩,
 ⟨(some 14), (some (12, true)), .load 1 false, [.slot 13], none⟩,
 ⟨(some 15), (some (12, true)), .bin .eql, [.slot 14, .val (.str ⟨#[]⟩)], none⟩,
 ⟨(some 16), none, .pick, [.slot 12, .slot 15, .val (.bool false)], none⟩,
 ⟨(some 2), none, .id, [.slot 16], none⟩])
 (.ret))
 (.seq
 (.region [
 ⟨(some 18), none, .bin .eql, [.slot 6, .val (.int .i64 1)], none⟩,
 ⟨(some 17), none, .id, [.slot 18], none⟩])
 (.cond (.slot 17)
 (.seq
 (.region [
 ⟨(some 19), none, .faddr 1, [.slot 1], none⟩,
 ⟨(some 20), none, .load 1 false, [.slot 19], none⟩,
 ⟨(some 21), none, .bin .eql, [.slot 20, .val (.int .i64 0)], none⟩,
 ⟨(some 22), none, .id, [.slot 21], none⟩,
 ⟨(some 23), (some (22, false)), .faddr 1, [.slot 1], none⟩,
 ⟨(some 24), (some (22, false)), .load 1 false, [.slot 23], none⟩,
 ⟨(some 25), (some (22, false)), .bin .eql, [.slot 24, .val (.int .i64 1)], none⟩,
 ⟨(some 26), none, .pick, [.slot 22, .val (.bool true), .slot 25], none⟩,
 ⟨(some 27), none, .id, [.slot 26], none⟩,
 ⟨(some 28), (some (27, true)), .faddr 2, [.slot 1], none⟩,
 ⟨(some 29), (some (27, true)), .load 1 false, [.slot 28], none⟩,
 ⟨(some 30), (some (27, true)), .bin .eql, [.slot 29, .val (.str ⟨#[]⟩)], none⟩,
 ⟨(some 31), none, .pick, [.slot 27, .slot 30, .val (.bool false)], none⟩,
 ⟨(some 2), none, .id, [.slot 31], none⟩])
 (.ret))
 (.seq
 (.region [
 ⟨(some 33), none, .bin .eql, [.slot 6, .val (.int .i64 2)], none⟩,
 ⟨(some 32), none, .id, [.slot 33], none⟩])
 (.cond (.slot 32)
 (.seq
 (.region [
 ⟨(some 34), none, .faddr 1, [.slot 1], none⟩,
 ⟨(some 35), none, .load 1 false, [.slot 34], none⟩,
 ⟨(some 36), none, .bin .geq, [.slot 35, .val (.int .i64 (-1099511627776))], none⟩,
 ⟨(some 37), none, .id, [.slot 36], none⟩,
 ⟨(some 38), (some (37, true)), .faddr 1, [.slot 1], none⟩,
 ⟨(some 39), (some (37, true)), .load 1 false, [.slot 38], none⟩,
 ⟨(some 40), (some (37, true)), .bin .leq, [.slot 39, .val (.int .i64 1099511627776)], none⟩,
 ⟨(some 41), none, .pick, [.slot 37, .slot 40, .val (.bool false)], none⟩,
 ⟨(some 42), none, .id, [.slot 41], none⟩,
 ⟨(some 43), (some (42, true)), .faddr 2, [.slot 1], none⟩,
 ⟨(some 44), (some (42, true)), .load 1 false, [.slot 43], none⟩,
 ⟨(some 45), (some (42, true)), .bin .eql, [.slot 44, .val (.str ⟨#[]⟩)], none⟩,
 ⟨(some 46), none, .pick, [.slot 42, .slot 45, .val (.bool false)], none⟩,
 ⟨(some 2), none, .id, [.slot 46], none⟩])
 (.ret))
 (.seq
 (.region [
 ⟨(some 48), none, .bin .eql, [.slot 6, .val (.int .i64 3)], none⟩,
 ⟨(some 47), none, .id, [.slot 48], none⟩])
 (.cond (.slot 47)
 (.seq
 (.region [
 ⟨(some 49), none, .faddr 1, [.slot 1], none⟩,
 ⟨(some 50), none, .load 1 false, [.slot 49], none⟩,
 ⟨(some 51), none, .bin .eql, [.slot 50, .val (.int .i64 0)], none⟩,
 ⟨(some 52), none, .id, [.slot 51], none⟩,
 ⟨(some 53), (some (52, true)), .faddr 2, [.slot 1], none⟩,
 ⟨(some 54), (some (52, true)), .load 1 false, [.slot 53], none⟩,
 ⟨(some 55), (some (52, true)), .call f_hedgerowref01_plain, [.slot 54], none⟩,
 ⟨(some 56), none, .pick, [.slot 52, .slot 55, .val (.bool false)], none⟩,
 ⟨(some 2), none, .id, [.slot 56], none⟩])
 (.ret))
 (.seq
 (.region [
 ⟨(some 58), none, .bin .eql, [.slot 6, .val (.int .i64 4)], none⟩,
 ⟨(some 57), none, .id, [.slot 58], none⟩])
 (.cond (.slot 57)
 (.seq
 (.region [
 ⟨(some 59), none, .faddr 1, [.slot 1], none⟩,
 ⟨(some 60), none, .load 1 false, [.slot 59], none⟩,
 ⟨(some 61), none, .bin .eql, [.slot 60, .val (.int .i64 0)], none⟩,
 ⟨(some 62), none, .id, [.slot 61], none⟩,
 ⟨(some 63), (some (62, true)), .faddr 2, [.slot 1], none⟩,
 ⟨(some 64), (some (62, true)), .load 1 false, [.slot 63], none⟩,
 ⟨(some 65), (some (62, true)), .call f_hedgerowref01_Name, [.slot 64], none⟩,
 ⟨(some 66), none, .pick, [.slot 62, .slot 65, .val (.bool false)], none⟩,
 ⟨(some 2), none, .id, [.slot 66], none⟩])
 (.ret))
 (.seq
 (.region [
 ⟨(some 68), none, .bin .eql, [.slot 6, .val (.int .i64 5)], none⟩,
 ⟨(some 67), none, .id, [.slot 68], none⟩])
 (.cond (.slot 67)
 (.seq
 (.region [
 ⟨(some 70), none, .faddr 2, [.slot 1], none⟩,
 ⟨(some 71), none, .load 1 false, [.slot 70], none⟩,
 ⟨(some 72), none, .call f_hedgerowref01_Link, [.slot 71], none⟩,
 ⟨(some 69), none, .id, [.slot 72], none⟩,
 ⟨(some 73), none, .extract 0, [.slot 69], none⟩,
 ⟨(some 74), none, .extract 1, [.slot 69], none⟩,
 ⟨(some 3), none, .allocL [(.str ⟨#[]⟩), (.str ⟨#[]⟩), (.str ⟨#[]⟩)], [], none⟩,
 ⟨none, none, .store 3, [.slot 3, .slot 73], none⟩,
 ⟨(some 4), none, .id, [.slot 74], none⟩])
 (.seq
 (.region [
 ⟨(some 75), none, .faddr 1, [.slot 1], none⟩,
 ⟨(some 76), none, .load 1 false, [.slot 75], none⟩,
 ⟨(some 77), none, .bin .eql, [.slot 76, .val (.int .i64 0)], none⟩,
 ⟨(some 78), none, .id, [.slot 77], none⟩,
 ⟨(some 79), (some (78, true)), .id, [.slot 4], none⟩,
 ⟨(some 80), none, .pick, [.slot 78, .slot 79, .val (.bool false)], none⟩,
 ⟨(some 2), none, .id, [.slot 80], none⟩])
 (.ret)))
 (.skip)))))))))))))))
 (.seq
 (.region [
 ⟨(some 2), none, .id, [.val (.bool false)], none⟩])
 (.ret)))
def F_hedgerowref01_Right : IFun := ⟨81, [.slot 2], b_hedgerowref01_Right, 3, 0, nofn⟩
theorem c_hedgerowref01_Right : cFun Tryz.prog [1048577, 1048579, 2097277] 0 f_hedgerowref01_Right = some F_hedgerowref01_Right := by kernel_rfl

def b_event_may : ICode :=
 .seq
 (.region [
 ⟨(some 1), none, .boxL, [.slot 0], none⟩,
 ⟨(some 2), none, .id, [.val (.bool false)], none⟩])
 (.seq
 (.seq
 (.region [
 ⟨(some 4), none, .faddr 1, [.slot 1], none⟩,
 ⟨(some 5), none, .load 5 true, [.slot 4], none⟩,
 ⟨(some 6), none, .call f_value_Elem, [.slot 5], none⟩,
 ⟨(some 7), none, .un .not, [.slot 6], none⟩])
 (.cond (.slot 7)
 (.seq
 (.region [
 ⟨(some 2), none, .id, [.val (.bool false)], none⟩])
 (.ret))
 (.skip)))
 (.seq
 (.region [
 ⟨(some 8), none, .faddr 6, [.slot 1], none⟩,
 ⟨(some 9), none, .load 3 true, [.slot 8], none⟩,
 ⟨(some 10), none, .build [(.int .i64 0), (.int .i64 0), (.str ⟨#[]⟩)] [], [], none⟩,
 ⟨(some 11), none, .eqv false [(.int .i64), (.int .i64), .str], [.slot 9, .slot 10], none⟩,
 ⟨(some 3), none, .id, [.slot 11], none⟩])
 (.seq
 (.seq
 (.region [
 ⟨(some 12), none, .faddr 0, [.slot 1], none⟩,
 ⟨(some 13), none, .load 1 false, [.slot 12], none⟩])
 (.block 0
 (.seq
 (.seq
 (.region [
 ⟨(some 15), none, .bin .eql, [.slot 13, .val (.int .i64 1)], none⟩,
 ⟨(some 14), none, .id, [.slot 15], none⟩])
 (.cond (.slot 14)
 (.skip)
 (.region [
 ⟨(some 16), none, .bin .eql, [.slot 13, .val (.int .i64 2)], none⟩,
 ⟨(some 14), none, .id, [.slot 16], none⟩])))
 (.cond (.slot 14)
 (.seq
 (.region [
 ⟨(some 17), none, .id, [.slot 3], none⟩,
 ⟨(some 18), none, .id, [.slot 17], none⟩,
 ⟨(some 19), (some (18, true)), .faddr 1, [.slot 1], none⟩,
 ⟨(some 20), (some (18, true)), .load 5 true, [.slot 19], none⟩,
 ⟨(some 21), (some (18, true)), .call f_event_kept, [.slot 20], none⟩,
 ⟨(some 22), (some (18, true)), .un .not, [.slot 21], none⟩,
 ⟨(some 23), none, .pick, [.slot 18, .slot 22, .val (.bool false)], none⟩,
 ⟨(some 2), none, .id, [.slot 23], none⟩])
 (.ret))
 (.seq
 (.region [
 ⟨(some 25), none, .bin .eql, [.slot 13, .val (.int .i64 3)], none⟩,
 ⟨(some 24), none, .id, [.slot 25], none⟩])
 (.cond (.slot 24)
 (.seq
 (.region [
 ⟨(some 26), none, .faddr 1, [.slot 1], none⟩,
 ⟨(some 27), none, .load 5 true, [.slot 26], none⟩,
 ⟨(some 28), none, .call f_event_kept, [.slot 27], none⟩,
 ⟨(some 29), none, .id, [.slot 28], none⟩,
 ⟨(some 30), (some (29, true)), .faddr 6, [.slot 1], none⟩,
 ⟨(some 31), (some (29, true)), .load 3 true, [.slot 30], none⟩,
 ⟨(some 32), (some (29, true)), .call f_event_scalar, [.slot 31], none⟩,
 ⟨(some 33), none, .pick, [.slot 29, .slot 32, .val (.bool false)], none⟩,
 ⟨(some 2), none, .id, [.slot 33], none⟩])
 (.ret))
 (.seq
 (.region [
 ⟨(some 35), none, .bin .eql, [.slot 13, .val (.int .i64 4)], none⟩,
 ⟨(some 34), none, .id, [.slot 35], none⟩])
 (.cond (.slot 34)
 (.seq
 (.region [
 ⟨(some 36), none, .id, [.slot 3], none⟩,
 ⟨(some 37), none, .id, [.slot 36], none⟩,
 ⟨(some 38), (some (37, true)), .faddr 1, [.slot 1], none⟩,
 ⟨(some 39), (some (37, true)), .load 5 true, [.slot 38], none⟩,
 ⟨(some 40), (some (37, true)), .call f_event_kept, [.slot 39], none⟩,
 ⟨(some 41), none, .pick, [.slot 37, .slot 40, .val (.bool false)], none⟩,
 ⟨(some 2), none, .id, [.slot 41], none⟩])
 (.ret))
 (.skip)))))))))
 (.seq
 (.region [
 ⟨(some 2), none, .id, [.val (.bool false)], none⟩])
 (.ret)))))
def F_event_may : IFun := ⟨42, [.slot 2], b_event_may, 3, 0, nofn⟩
theorem c_event_may : cFun Tryz.prog [1048577] 0 f_event_may = some F_event_may := by kernel_rfl

def L0_value_Name : ICode :=
 .seq
 (.region [
 ⟨(some 20), none, .bin .lss, [.slot 19, .slot 18], none⟩])
 (.seq
 (.cond (.slot 20)
 (.skip)
 (.exit 0))
 (.seq
 (.block 1
 (.seq
 (.region [
 ⟨(some 21), none, .id, [.slot 19], none⟩,
 ⟨(some 3), none, .id, [.slot 21], none⟩])
 (.seq
 (.region [
 ⟨(some 22), none, .id, [.slot 0], none⟩,
 ⟨(some 23), none, .id, [.slot 3], none⟩,
 ⟨(some 24), none, .ixstr, [.slot 22, .slot 23], none⟩,
 ⟨(some 25), none, .call f_value_inner, [.slot 24], none⟩,
 ⟨(some 26), none, .un .not, [.slot 25], none⟩])
 (.cond (.slot 26)
 (.seq
 (.region [
 ⟨(some 2), none, .id, [.val (.bool false)], none⟩])
 (.ret))
 (.skip)))))
 (.region [
 ⟨(some 27), none, .bin .add, [.slot 19, .val (.int .i64 1)], none⟩,
 ⟨(some 19), none, .id, [.slot 27], none⟩])))
def b_value_Name : ICode :=
 .seq
 (.region [
 ⟨(some 2), none, .id, [.val (.bool false)], none⟩])
 (.seq
 (.seq
 (.region [
 ⟨(some 4), none, .id, [.slot 0], none⟩,
 ⟨(some 5), none, .bin .eql, [.slot 4, .val (.str ⟨#[]⟩)], none⟩,
 ⟨(some 6), none, .id, [.slot 5], none⟩,
 ⟨(some 7), (some (6, false)), .id, [.slot 0], none⟩,
 ⟨(some 8), (some (6, false)), .lenstr, [.slot 7], none⟩,
 ⟨(some 9), (some (6, false)), .bin .gtr, [.slot 8, .val (.int .i64 16)], none⟩,
 ⟨(some 10), none, .pick, [.slot 6, .val (.bool true), .slot 9], none⟩,
 ⟨(some 11), none, .id, [.slot 10], none⟩,
 ⟨(some 12), (some (11, false)), .id, [.slot 0], none⟩,
 ⟨(some 13), (some (11, false)), .ixstr, [.slot 12, .val (.int .i64 0)], none⟩,
 ⟨(some 14), (some (11, false)), .call f_value_letter, [.slot 13], none⟩,
 ⟨(some 15), (some (11, false)), .un .not, [.slot 14], none⟩,
 ⟨(some 16), none, .pick, [.slot 11, .val (.bool true), .slot 15], none⟩])
 (.cond (.slot 16)
 (.seq
 (.region [
 ⟨(some 2), none, .id, [.val (.bool false)], none⟩])
 (.ret))
 (.skip)))
 (.seq
 (.seq
 (.region [
 ⟨(some 17), none, .id, [.slot 0], none⟩,
 ⟨(some 18), none, .lenstr, [.slot 17], none⟩,
 ⟨(some 19), none, .id, [.val (.int .i64 0)], none⟩])
 (.block 0
 (.loop L0_value_Name)))
 (.seq
 (.region [
 ⟨(some 2), none, .id, [.val (.bool true)], none⟩])
 (.ret))))
def F_value_Name : IFun := ⟨28, [.slot 2], b_value_Name, 3, 0, nofn⟩
theorem c_value_Name : cFun Tryz.prog [] 0 f_value_Name = some F_value_Name := by kernel_rfl

def F_strings_Join : IFun := ⟨8, [], .trap, 0, 10, nofn⟩

def L0_hedgerowref01_Name : ICode :=
 .seq
 (.seq
 (.region [
 ⟨(some 7), none, .id, [.slot 3], none⟩,
 ⟨(some 8), none, .id, [.slot 0], none⟩,
 ⟨(some 9), none, .lenstr, [.slot 8], none⟩,
 ⟨(some 10), none, .bin .lss, [.slot 7, .slot 9], none⟩])
 (.cond (.slot 10)
 (.skip)
 (.exit 0)))
 (.seq
 (.block 1
 (.seq
 (.region [
 ⟨(some 13), none, .id, [.slot 0], none⟩,
 ⟨(some 14), none, .id, [.slot 3], none⟩,
 ⟨(some 15), none, .ixstr, [.slot 13, .slot 14], none⟩,
 ⟨(some 4), none, .id, [.slot 15], none⟩])
 (.seq
 (.region [
 ⟨(some 16), none, .id, [.slot 4], none⟩,
 ⟨(some 17), none, .bin .geq, [.slot 16, .val (.int .u8 97)], none⟩,
 ⟨(some 18), none, .id, [.slot 17], none⟩,
 ⟨(some 19), (some (18, true)), .id, [.slot 4], none⟩,
 ⟨(some 20), (some (18, true)), .bin .leq, [.slot 19, .val (.int .u8 122)], none⟩,
 ⟨(some 21), none, .pick, [.slot 18, .slot 20, .val (.bool false)], none⟩,
 ⟨(some 22), none, .id, [.slot 21], none⟩,
 ⟨(some 23), (some (22, false)), .id, [.slot 4], none⟩,
 ⟨(some 24), (some (22, false)), .bin .geq, [.slot 23, .val (.int .u8 65)], none⟩,
 ⟨(some 25), (some (22, false)), .id, [.slot 24], none⟩,
 ⟨(some 26), (some (25, true)), .id, [.slot 4], none⟩,
 ⟨(some 27), (some (25, true)), .bin .leq, [.slot 26, .val (.int .u8 90)], none⟩,
 ⟨(some 28), (some (22, false)), .pick, [.slot 25, .slot 27, .val (.bool false)], none⟩,
 ⟨(some 29), none, .pick, [.slot 22, .val (.bool true), .slot 28], none⟩,
 ⟨(some 5), none, .id, [.slot 29], none⟩])
 (.seq
 (.region [
 ⟨(some 30), none, .id, [.slot 4], none⟩,
 ⟨(some 31), none, .bin .geq, [.slot 30, .val (.int .u8 48)], none⟩,
 ⟨(some 32), none, .id, [.slot 31], none⟩,
 ⟨(some 33), (some (32, true)), .id, [.slot 4], none⟩,
 ⟨(some 34), (some (32, true)), .bin .leq, [.slot 33, .val (.int .u8 57)], none⟩,
 ⟨(some 35), none, .pick, [.slot 32, .slot 34, .val (.bool false)], none⟩,
 ⟨(some 36), none, .id, [.slot 35], none⟩,
 ⟨(some 37), (some (36, false)), .id, [.slot 4], none⟩,
 ⟨(some 38), (some (36, false)), .bin .eql, [.slot 37, .val (.int .u8 95)], none⟩,
 ⟨(some 39), none, .pick, [.slot 36, .val (.bool true), .slot 38], none⟩,
 ⟨(some 6), none, .id, [.slot 39], none⟩])
 (.seq
 (.region [
 ⟨(some 40), none, .id, [.slot 5], none⟩,
 ⟨(some 41), none, .un .not, [.slot 40], none⟩,
 ⟨(some 42), none, .id, [.slot 41], none⟩,
 ⟨(some 43), (some (42, true)), .id, [.slot 6], none⟩,
 ⟨(some 44), (some (42, true)), .un .not, [.slot 43], none⟩,
 ⟨(some 45), (some (42, true)), .id, [.slot 44], none⟩,
 ⟨(some 46), (some (45, false)), .id, [.slot 3], none⟩,
 ⟨(some 47), (some (45, false)), .bin .eql, [.slot 46, .val (.int .i64 0)], none⟩,
 ⟨(some 48), (some (42, true)), .pick, [.slot 45, .val (.bool true), .slot 47], none⟩,
 ⟨(some 49), none, .pick, [.slot 42, .slot 48, .val (.bool false)], none⟩])
 (.cond (.slot 49)
 (.seq
 (.region [
 ⟨(some 2), none, .id, [.val (.bool false)], none⟩])
 (.ret))
 (.skip)))))))
 (.region [
 ⟨(some 11), none, .id, [.slot 3], none⟩,
 ⟨(some 12), none, .bin .add, [.slot 11, .val (.int .i64 1)], none⟩,
 ⟨(some 3), none, .id, [.slot 12], none⟩]))
def b_hedgerowref01_Name : ICode :=
 .seq
 (.region [
 ⟨(some 2), none, .id, [.val (.bool false)], none⟩])
 (.seq
 (.seq
 (.region [
 ⟨(some 3), none, .id, [.val (.int .i64 0)], none⟩])
 (.block 0
 (.loop L0_hedgerowref01_Name)))
 (.seq
 (.region [
 ⟨(some 50), none, .id, [.slot 0], none⟩,
 ⟨(some 51), none, .lenstr, [.slot 50], none⟩,
 ⟨(some 52), none, .bin .geq, [.slot 51, .val (.int .i64 1)], none⟩,
 ⟨(some 53), none, .id, [.slot 52], none⟩,
 ⟨(some 54), (some (53, true)), .id, [.slot 0], none⟩,
 ⟨(some 55), (some (53, true)), .lenstr, [.slot 54], none⟩,
 ⟨(some 56), (some (53, true)), .bin .leq, [.slot 55, .val (.int .i64 16)], none⟩,
 ⟨(some 57), none, .pick, [.slot 53, .slot 56, .val (.bool false)], none⟩,
 ⟨(some 2), none, .id, [.slot 57], none⟩])
 (.ret)))
def F_hedgerowref01_Name : IFun := ⟨58, [.slot 2], b_hedgerowref01_Name, 3, 0, nofn⟩
theorem c_hedgerowref01_Name : cFun Tryz.prog [] 0 f_hedgerowref01_Name = some F_hedgerowref01_Name := by kernel_rfl

def L0_hedgerowref01_plain : ICode :=
 .seq
 (.seq
 (.region [
 ⟨(some 4), none, .id, [.slot 3], none⟩,
 ⟨(some 5), none, .id, [.slot 0], none⟩,
 ⟨(some 6), none, .lenstr, [.slot 5], none⟩,
 ⟨(some 7), none, .bin .lss, [.slot 4, .slot 6], none⟩])
 (.cond (.slot 7)
 (.skip)
 (.exit 0)))
 (.seq
 (.block 1
 (.seq
 (.region [
 ⟨(some 10), none, .id, [.slot 0], none⟩,
 ⟨(some 11), none, .id, [.slot 3], none⟩,
 ⟨(some 12), none, .ixstr, [.slot 10, .slot 11], none⟩,
 ⟨(some 13), none, .bin .lss, [.slot 12, .val (.int .u8 32)], none⟩,
 ⟨(some 14), none, .id, [.slot 13], none⟩,
 ⟨(some 15), (some (14, false)), .id, [.slot 0], none⟩,
 ⟨(some 16), (some (14, false)), .id, [.slot 3], none⟩,
 ⟨(some 17), (some (14, false)), .ixstr, [.slot 15, .slot 16], none⟩,
 ⟨(some 18), (some (14, false)), .bin .gtr, [.slot 17, .val (.int .u8 126)], none⟩,
 ⟨(some 19), none, .pick, [.slot 14, .val (.bool true), .slot 18], none⟩])
 (.cond (.slot 19)
 (.seq
 (.region [
 ⟨(some 2), none, .id, [.val (.bool false)], none⟩])
 (.ret))
 (.skip))))
 (.region [
 ⟨(some 8), none, .id, [.slot 3], none⟩,
 ⟨(some 9), none, .bin .add, [.slot 8, .val (.int .i64 1)], none⟩,
 ⟨(some 3), none, .id, [.slot 9], none⟩]))
def b_hedgerowref01_plain : ICode :=
 .seq
 (.region [
 ⟨(some 2), none, .id, [.val (.bool false)], none⟩])
 (.seq
 (.seq
 (.region [
 ⟨(some 3), none, .id, [.val (.int .i64 0)], none⟩])
 (.block 0
 (.loop L0_hedgerowref01_plain)))
 (.seq
 (.region [
 ⟨(some 20), none, .id, [.slot 0], none⟩,
 ⟨(some 21), none, .lenstr, [.slot 20], none⟩,
 ⟨(some 22), none, .bin .leq, [.slot 21, .val (.int .i64 64)], none⟩,
 ⟨(some 2), none, .id, [.slot 22], none⟩])
 (.ret)))
def F_hedgerowref01_plain : IFun := ⟨23, [.slot 2], b_hedgerowref01_plain, 3, 0, nofn⟩
theorem c_hedgerowref01_plain : cFun Tryz.prog [] 0 f_hedgerowref01_plain = some F_hedgerowref01_plain := by kernel_rfl

def b_hedgerowref01_Link : ICode :=
 .seq
 (.region [
 ⟨(some 2), none, .allocL [(.str ⟨#[]⟩), (.str ⟨#[]⟩), (.str ⟨#[]⟩)], [], none⟩,
 ⟨(some 3), none, .id, [.val (.bool false)], none⟩])
 (.seq
 (.seq
 (.region [
 ⟨(some 5), none, .id, [.slot 0], none⟩,
 ⟨(some 6), none, .lenstr, [.slot 5], none⟩,
 ⟨(some 7), none, .bin .gtr, [.slot 6, .val (.int .i64 60)], none⟩])
 (.cond (.slot 7)
 (.seq
 (.region [
 ⟨(some 8), none, .build [(.str ⟨#[]⟩), (.str ⟨#[]⟩), (.str ⟨#[]⟩)] [], [], none⟩,
 ⟨none, none, .store 3, [.slot 2, .slot 8], none⟩,
 ⟨(some 3), none, .id, [.val (.bool false)], none⟩])
 (.ret))
 (.skip)))
 (.seq
 (.region [
 ⟨(some 9), none, .id, [.slot 0], none⟩,
 ⟨(some 10), none, .call f_hedgerowref01_Split, [.slot 9, .val (.int .u8 62)], none⟩,
 ⟨(some 4), none, .id, [.slot 10], none⟩])
 (.seq
 (.seq
 (.region [
 ⟨(some 11), none, .id, [.slot 4], none⟩,
 ⟨(some 12), none, .lensl, [.slot 11], none⟩,
 ⟨(some 13), none, .bin .neq, [.slot 12, .val (.int .i64 3)], none⟩,
 ⟨(some 14), none, .id, [.slot 13], none⟩,
 ⟨(some 15), (some (14, false)), .id, [.slot 4], none⟩,
 ⟨(some 16), (some (14, false)), .ixaddr 1, [.slot 15, .val (.int .i64 0)], none⟩,
 ⟨(some 17), (some (14, false)), .load 1 false, [.slot 16], none⟩,
 ⟨(some 18), (some (14, false)), .call f_hedgerowref01_Name, [.slot 17], none⟩,
 ⟨(some 19), (some (14, false)), .un .not, [.slot 18], none⟩,
 ⟨(some 20), none, .pick, [.slot 14, .val (.bool true), .slot 19], none⟩,
 ⟨(some 21), none, .id, [.slot 20], none⟩,
 ⟨(some 22), (some (21, false)), .id, [.slot 4], none⟩,
 ⟨(some 23), (some (21, false)), .ixaddr 1, [.slot 22, .val (.int .i64 1)], none⟩,
 ⟨(some 24), (some (21, false)), .load 1 false, [.slot 23], none⟩,
 ⟨(some 25), (some (21, false)), .call f_hedgerowref01_Name, [.slot 24], none⟩,
 ⟨(some 26), (some (21, false)), .un .not, [.slot 25], none⟩,
 ⟨(some 27), none, .pick, [.slot 21, .val (.bool true), .slot 26], none⟩,
 ⟨(some 28), none, .id, [.slot 27], none⟩,
 ⟨(some 29), (some (28, false)), .id, [.slot 4], none⟩,
 ⟨(some 30), (some (28, false)), .ixaddr 1, [.slot 29, .val (.int .i64 2)], none⟩,
 ⟨(some 31), (some (28, false)), .load 1 false, [.slot 30], none⟩,
 ⟨(some 32), (some (28, false)), .call f_hedgerowref01_Name, [.slot 31], none⟩,
 ⟨(some 33), (some (28, false)), .un .not, [.slot 32], none⟩,
 ⟨(some 34), none, .pick, [.slot 28, .val (.bool true), .slot 33], none⟩])
 (.cond (.slot 34)
 (.seq
 (.region [
 ⟨(some 35), none, .build [(.str ⟨#[]⟩), (.str ⟨#[]⟩), (.str ⟨#[]⟩)] [], [], none⟩,
 ⟨none, none, .store 3, [.slot 2, .slot 35], none⟩,
 ⟨(some 3), none, .id, [.val (.bool false)], none⟩])
 (.ret))
 (.skip)))
 (.seq
 (.region [
 ⟨(some 36), none, .id, [.slot 4], none⟩,
 ⟨(some 37), none, .ixaddr 1, [.slot 36, .val (.int .i64 0)], none⟩,
 ⟨(some 38), none, .load 1 false, [.slot 37], (some (.heap))⟩,
 ⟨(some 39), none, .id, [.slot 4], none⟩,
 ⟨(some 40), none, .ixaddr 1, [.slot 39, .val (.int .i64 1)], none⟩,
 ⟨(some 41), none, .load 1 false, [.slot 40], (some (.heap))⟩,
 ⟨(some 42), none, .id, [.slot 4], none⟩,
 ⟨(some 43), none, .ixaddr 1, [.slot 42, .val (.int .i64 2)], none⟩,
 ⟨(some 44), none, .load 1 false, [.slot 43], (some (.heap))⟩,
 ⟨(some 45), none, .build [(.str ⟨#[]⟩), (.str ⟨#[]⟩), (.str ⟨#[]⟩)] [(0, 1), (2, 1), (1, 1)], [.slot 38, .slot 41, .slot 44], none⟩,
 ⟨none, none, .store 3, [.slot 2, .slot 45], (some (.loc 2))⟩,
 ⟨(some 3), none, .id, [.val (.bool true)], none⟩])
 (.ret)))))
def F_hedgerowref01_Link : IFun := ⟨46, [.cell 2 3 true, .slot 3], b_hedgerowref01_Link, 3, 1, nofn⟩
theorem c_hedgerowref01_Link : cFun Tryz.prog [1048578, 3145765, 3145768, 3145771] 1 f_hedgerowref01_Link = some F_hedgerowref01_Link := by kernel_rfl

def b_event_kept : ICode :=
 .seq
 (.region [
 ⟨(some 1), none, .boxL, [.slot 0], none⟩,
 ⟨(some 2), none, .id, [.val (.bool false)], none⟩])
 (.seq
 (.region [
 ⟨(some 3), none, .faddr 0, [.slot 1], none⟩,
 ⟨(some 4), none, .load 1 false, [.slot 3], none⟩,
 ⟨(some 5), none, .bin .eql, [.slot 4, .val (.int .i64 4)], none⟩,
 ⟨(some 6), none, .id, [.slot 5], none⟩,
 ⟨(some 7), (some (6, false)), .faddr 0, [.slot 1], none⟩,
 ⟨(some 8), (some (6, false)), .load 1 false, [.slot 7], none⟩,
 ⟨(some 9), (some (6, false)), .bin .eql, [.slot 8, .val (.int .i64 5)], none⟩,
 ⟨(some 10), none, .pick, [.slot 6, .val (.bool true), .slot 9], none⟩,
 ⟨(some 2), none, .id, [.slot 10], none⟩])
 (.ret))
def F_event_kept : IFun := ⟨11, [.slot 2], b_event_kept, 3, 0, nofn⟩
theorem c_event_kept : cFun Tryz.prog [1048577] 0 f_event_kept = some F_event_kept := by kernel_rfl

def b_event_scalar : ICode :=
 .seq
 (.region [
 ⟨(some 1), none, .boxL, [.slot 0], none⟩,
 ⟨(some 2), none, .id, [.val (.bool false)], none⟩])
 (.seq
 (.region [
 ⟨(some 3), none, .faddr 0, [.slot 1], none⟩,
 ⟨(some 4), none, .load 1 false, [.slot 3], none⟩,
 ⟨(some 5), none, .bin .geq, [.slot 4, .val (.int .i64 1)], none⟩,
 ⟨(some 6), none, .id, [.slot 5], none⟩,
 ⟨(some 7), (some (6, true)), .faddr 0, [.slot 1], none⟩,
 ⟨(some 8), (some (6, true)), .load 1 false, [.slot 7], none⟩,
 ⟨(some 9), (some (6, true)), .bin .leq, [.slot 8, .val (.int .i64 3)], none⟩,
 ⟨(some 10), none, .pick, [.slot 6, .slot 9, .val (.bool false)], none⟩,
 ⟨(some 11), none, .id, [.slot 10], none⟩,
 ⟨(some 12), (some (11, true)), .load 3 true, [.slot 1], none⟩,
 ⟨(some 13), (some (11, true)), .call f_value_Right, [.slot 12], none⟩,
 ⟨(some 14), none, .pick, [.slot 11, .slot 13, .val (.bool false)], none⟩,
 ⟨(some 2), none, .id, [.slot 14], none⟩])
 (.ret))
def F_event_scalar : IFun := ⟨15, [.slot 2], b_event_scalar, 3, 0, nofn⟩
theorem c_event_scalar : cFun Tryz.prog [1048577] 0 f_event_scalar = some F_event_scalar := by kernel_rfl

def b_value_letter : ICode :=
 .seq
 (.region [
 ⟨(some 2), none, .id, [.val (.bool false)], none⟩])
 (.seq
 (.region [
 ⟨(some 3), none, .id, [.slot 0], none⟩,
 ⟨(some 4), none, .bin .geq, [.slot 3, .val (.int .u8 97)], none⟩,
 ⟨(some 5), none, .id, [.slot 4], none⟩,
 ⟨(some 6), (some (5, true)), .id, [.slot 0], none⟩,
 ⟨(some 7), (some (5, true)), .bin .leq, [.slot 6, .val (.int .u8 122)], none⟩,
 ⟨(some 8), none, .pick, [.slot 5, .slot 7, .val (.bool false)], none⟩,
 ⟨(some 9), none, .id, [.slot 8], none⟩,
 ⟨(some 10), (some (9, false)), .id, [.slot 0], none⟩,
 ⟨(some 11), (some (9, false)), .bin .geq, [.slot 10, .val (.int .u8 65)], none⟩,
 ⟨(some 12), (some (9, false)), .id, [.slot 11], none⟩,
 ⟨(some 13), (some (12, true)), .id, [.slot 0], none⟩,
 ⟨(some 14), (some (12, true)), .bin .leq, [.slot 13, .val (.int .u8 90)], none⟩,
 ⟨(some 15), (some (9, false)), .pick, [.slot 12, .slot 14, .val (.bool false)], none⟩,
 ⟨(some 16), none, .pick, [.slot 9, .val (.bool true), .slot 15], none⟩,
 ⟨(some 2), none, .id, [.slot 16], none⟩])
 (.ret))
def F_value_letter : IFun := ⟨17, [.slot 2], b_value_letter, 3, 0, nofn⟩
theorem c_value_letter : cFun Tryz.prog [] 0 f_value_letter = some F_value_letter := by kernel_rfl

def b_value_inner : ICode :=
 .seq
 (.region [
 ⟨(some 2), none, .id, [.val (.bool false)], none⟩])
 (.seq
 (.region [
 ⟨(some 3), none, .id, [.slot 0], none⟩,
 ⟨(some 4), none, .call f_value_letter, [.slot 3], none⟩,
 ⟨(some 5), none, .id, [.slot 4], none⟩,
 ⟨(some 6), (some (5, false)), .id, [.slot 0], none⟩,
 ⟨(some 7), (some (5, false)), .bin .geq, [.slot 6, .val (.int .u8 48)], none⟩,
 ⟨(some 8), (some (5, false)), .id, [.slot 7], none⟩,
 ⟨(some 9), (some (8, true)), .id, [.slot 0], none⟩,
 ⟨(some 10), (some (8, true)), .bin .leq, [.slot 9, .val (.int .u8 57)], none⟩,
 ⟨(some 11), (some (5, false)), .pick, [.slot 8, .slot 10, .val (.bool false)], none⟩,
 ⟨(some 12), none, .pick, [.slot 5, .val (.bool true), .slot 11], none⟩,
 ⟨(some 13), none, .id, [.slot 12], none⟩,
 ⟨(some 14), (some (13, false)), .id, [.slot 0], none⟩,
 ⟨(some 15), (some (13, false)), .bin .eql, [.slot 14, .val (.int .u8 95)], none⟩,
 ⟨(some 16), none, .pick, [.slot 13, .val (.bool true), .slot 15], none⟩,
 ⟨(some 2), none, .id, [.slot 16], none⟩])
 (.ret))
def F_value_inner : IFun := ⟨17, [.slot 2], b_value_inner, 3, 0, nofn⟩
theorem c_value_inner : cFun Tryz.prog [] 0 f_value_inner = some F_value_inner := by kernel_rfl

def L0_hedgerowref01_Split : ICode :=
 .seq
 (.seq
 (.region [
 ⟨(some 8), none, .id, [.slot 6], none⟩,
 ⟨(some 9), none, .id, [.slot 0], none⟩,
 ⟨(some 10), none, .lenstr, [.slot 9], none⟩,
 ⟨(some 11), none, .bin .lss, [.slot 8, .slot 10], none⟩])
 (.cond (.slot 11)
 (.skip)
 (.exit 0)))
 (.seq
 (.block 1
 (.seq
 (.region [
 ⟨(some 14), none, .id, [.slot 0], none⟩,
 ⟨(some 15), none, .id, [.slot 6], none⟩,
 ⟨(some 16), none, .ixstr, [.slot 14, .slot 15], none⟩,
 ⟨(some 17), none, .id, [.slot 1], none⟩,
 ⟨(some 18), none, .bin .eql, [.slot 16, .slot 17], none⟩])
 (.cond (.slot 18)
 (.region [
 ⟨(some 19), none, .id, [.slot 5], none⟩,
 ⟨(some 20), none, .buildSl 1 1 (.str ⟨#[]⟩) [0], [.val (.str ⟨#[]⟩)], none⟩,
 ⟨(some 21), none, .append 9 1 16, [.slot 19, .slot 20], none⟩,
 ⟨(some 5), none, .id, [.slot 21], none⟩])
 (.region [
 ⟨(some 22), none, .id, [.slot 5], none⟩,
 ⟨(some 23), none, .id, [.slot 5], none⟩,
 ⟨(some 24), none, .lensl, [.slot 23], none⟩,
 ⟨(some 25), none, .bin .sub, [.slot 24, .val (.int .i64 1)], none⟩,
 ⟨(some 26), none, .id, [.slot 5], none⟩,
 ⟨(some 27), none, .id, [.slot 5], none⟩,
 ⟨(some 28), none, .lensl, [.slot 27], none⟩,
 ⟨(some 29), none, .bin .sub, [.slot 28, .val (.int .i64 1)], none⟩,
 ⟨(some 30), none, .ixaddr 1, [.slot 26, .slot 29], none⟩,
 ⟨(some 31), none, .load 1 false, [.slot 30], (some (.heap))⟩,
 ⟨(some 32), none, .id, [.slot 0], none⟩,
 ⟨(some 33), none, .id, [.slot 6], none⟩,
 ⟨(some 34), none, .id, [.slot 6], none⟩,
 ⟨(some 35), none, .bin .add, [.slot 34, .val (.int .i64 1)], none⟩,
 ⟨(some 36), none, .slstr true true, [.slot 32, .slot 33, .slot 35], none⟩,
 ⟨(some 37), none, .bin .add, [.slot 31, .slot 36], none⟩,
 ⟨(some 38), none, .ixaddr 1, [.slot 22, .slot 25], none⟩,
 ⟨none, none, .store 1, [.slot 38, .slot 37], (some (.heap))⟩]))))
 (.region [
 ⟨(some 12), none, .id, [.slot 6], none⟩,
 ⟨(some 13), none, .bin .add, [.slot 12, .val (.int .i64 1)], none⟩,
 ⟨(some 6), none, .id, [.slot 13], none⟩]))
def b_hedgerowref01_Split : ICode :=
 .seq
 (.region [
 ⟨(some 4), none, .id, [.val .nilsl], none⟩])
 (.seq
 (.region [
 ⟨(some 7), none, .buildR 9 1 1 (.str ⟨#[]⟩) [0], [.val (.str ⟨#[]⟩)], none⟩,
 ⟨(some 5), none, .id, [.slot 7], none⟩])
 (.seq
 (.seq
 (.region [
 ⟨(some 6), none, .id, [.val (.int .i64 0)], none⟩])
 (.block 0
 (.loop L0_hedgerowref01_Split)))
 (.seq
 (.region [
 ⟨(some 39), none, .id, [.slot 5], none⟩,
 ⟨(some 4), none, .id, [.slot 39], none⟩])
 (.ret))))
def F_hedgerowref01_Split : IFun := ⟨40, [.slot 4], b_hedgerowref01_Split, 3, 0, nofn⟩
theorem c_hedgerowref01_Split : cFun Tryz.prog [7, 3145758, 3145766] 0 f_hedgerowref01_Split = some F_hedgerowref01_Split := by kernel_rfl

def b_value_Right : ICode :=
 .seq
 (.region [
 ⟨(some 1), none, .boxL, [.slot 0], none⟩,
 ⟨(some 2), none, .id, [.val (.bool false)], none⟩])
 (.seq
 (.seq
 (.region [
 ⟨(some 5), none, .faddr 0, [.slot 1], none⟩,
 ⟨(some 6), none, .load 1 false, [.slot 5], none⟩])
 (.block 0
 (.seq
 (.region [
 ⟨(some 8), none, .bin .eql, [.slot 6, .val (.int .i64 0)], none⟩,
 ⟨(some 7), none, .id, [.slot 8], none⟩])
 (.cond (.slot 7)
 (.seq
 (.region [
 ⟨(some 9), none, .faddr 1, [.slot 1], none⟩,
 ⟨(some 10), none, .load 1 false, [.slot 9], none⟩,
 ⟨(some 11), none, .bin .eql, [.slot 10, .val (.int .i64 0)], none⟩,
 ⟨(some 12), none, .id, [.slot 11], none⟩,
 ⟨(some 13), (some (12, true)), .faddr 2, [.slot 1], none⟩,
 ⟨(some 14), (some (12, true)), .load 1 false, [.slot 13], none⟩,
 ⟨(some 15), (some (12, true)), .bin .eql, [.slot 14, .val (.str ⟨#[]⟩)], none⟩,
 ⟨(some 16), none, .pick, [.slot 12, .slot 15, .val (.bool false)], none⟩,
 ⟨(some 2), none, .id, [.slot 16], none⟩])
 (.ret))
 (.seq
 (.region [
 ⟨(some 18), none, .bin .eql, [.slot 6, .val (.int .i64 1)], none⟩,
 ⟨(some 17), none, .id, [.slot 18], none⟩])
 (.cond (.slot 17)
 (.seq
 (.region [
 ⟨(some 19), none, .faddr 1, [.slot 1], none⟩,
 ⟨(some 20), none, .load 1 false, [.slot 19], none⟩,
 ⟨(some 21), none, .bin .andNot, [.slot 20, .val (.int .i64 1)], none⟩,
 ⟨(some 22), none, .bin .eql, [.slot 21, .val (.int .i64 0)], none⟩,
 ⟨(some 23), none, .id, [.slot 22], none⟩,
 ⟨(some 24), (some (23, true)), .faddr 2, [.slot 1], none⟩,
 ⟨(some 25), (some (23, true)), .load 1 false, [.slot 24], none⟩,
 ⟨(some 26), (some (23, true)), .bin .eql, [.slot 25, .val (.str ⟨#[]⟩)], none⟩,
 ⟨(some 27), none, .pick, [.slot 23, .slot 26, .val (.bool false)], none⟩,
 ⟨(some 2), none, .id, [.slot 27], none⟩])
 (.ret))
 (.seq
 (.region [
 ⟨(some 29), none, .bin .eql, [.slot 6, .val (.int .i64 2)], none⟩,
 ⟨(some 28), none, .id, [.slot 29], none⟩])
 (.cond (.slot 28)
 (.seq
 (.region [
 ⟨(some 30), none, .faddr 1, [.slot 1], none⟩,
 ⟨(some 31), none, .load 1 false, [.slot 30], none⟩,
 ⟨(some 32), none, .bin .geq, [.slot 31, .val (.int .i64 (-1099511627776))], none⟩,
 ⟨(some 33), none, .id, [.slot 32], none⟩,
 ⟨(some 34), (some (33, true)), .faddr 1, [.slot 1], none⟩,
 ⟨(some 35), (some (33, true)), .load 1 false, [.slot 34], none⟩,
 ⟨(some 36), (some (33, true)), .bin .leq, [.slot 35, .val (.int .i64 1099511627776)], none⟩,
 ⟨(some 37), none, .pick, [.slot 33, .slot 36, .val (.bool false)], none⟩,
 ⟨(some 38), none, .id, [.slot 37], none⟩,
 ⟨(some 39), (some (38, true)), .faddr 2, [.slot 1], none⟩,
 ⟨(some 40), (some (38, true)), .load 1 false, [.slot 39], none⟩,
 ⟨(some 41), (some (38, true)), .bin .eql, [.slot 40, .val (.str ⟨#[]⟩)], none⟩,
 ⟨(some 42), none, .pick, [.slot 38, .slot 41, .val (.bool false)], none⟩,
 ⟨(some 2), none, .id, [.slot 42], none⟩])
 (.ret))
 (.seq
 (.region [
 ⟨(some 44), none, .bin .eql, [.slot 6, .val (.int .i64 3)], none⟩,
 ⟨(some 43), none, .id, [.slot 44], none⟩])
 (.cond (.slot 43)
 (.seq
 (.region [
 ⟨(some 45), none, .faddr 1, [.slot 1], none⟩,
 ⟨(some 46), none, .load 1 false, [.slot 45], none⟩,
 ⟨(some 47), none, .bin .eql, [.slot 46, .val (.int .i64 0)], none⟩,
 ⟨(some 48), none, .id, [.slot 47], none⟩,
 ⟨(some 49), (some (48, true)), .faddr 2, [.slot 1], none⟩,
 ⟨(some 50), (some (48, true)), .load 1 false, [.slot 49], none⟩,
 ⟨(some 51), (some (48, true)), .call f_value_plain, [.slot 50], none⟩,
 ⟨(some 52), none, .pick, [.slot 48, .slot 51, .val (.bool false)], none⟩,
 ⟨(some 2), none, .id, [.slot 52], none⟩])
 (.ret))
 (.seq
 (.region [
 ⟨(some 54), none, .bin .eql, [.slot 6, .val (.int .i64 4)], none⟩,
 ⟨(some 53), none, .id, [.slot 54], none⟩])
 (.cond (.slot 53)
 (.seq
 (.region [
 ⟨(some 55), none, .faddr 1, [.slot 1], none⟩,
 ⟨(some 56), none, .load 1 false, [.slot 55], none⟩,
 ⟨(some 57), none, .bin .eql, [.slot 56, .val (.int .i64 0)], none⟩,
 ⟨(some 58), none, .id, [.slot 57], none⟩,
 ⟨(some 59), (some (58, true)), .faddr 2, [.slot 1], none⟩,
 ⟨(some 60), (some (58, true)), .load 1 false, [.slot 59], none⟩,
 ⟨(some 61), (some (58, true)), .call f_value_Name, [.slot 60], none⟩,
 ⟨(some 62), none, .pick, [.slot 58, .slot 61, .val (.bool false)], none⟩,
 ⟨(some 2), none, .id, [.slot 62], none⟩])
 (.ret))
 (.skip)))))))))))))
 (.seq
 (.region [
 ⟨(some 64), none, .load 3 true, [.slot 1], none⟩,
 ⟨(some 65), none, .call f_value_Link, [.slot 64], none⟩,
 ⟨(some 63), none, .id, [.slot 65], none⟩,
 ⟨(some 66), none, .extract 0, [.slot 63], none⟩,
 ⟨(some 67), none, .extract 1, [.slot 63], none⟩,
 ⟨(some 3), none, .allocL [(.str ⟨#[]⟩), (.str ⟨#[]⟩), (.str ⟨#[]⟩)], [], none⟩,
 ⟨none, none, .store 3, [.slot 3, .slot 66], none⟩,
 ⟨(some 4), none, .id, [.slot 67], none⟩])
 (.seq
 (.region [
 ⟨(some 68), none, .id, [.slot 4], none⟩,
 ⟨(some 2), none, .id, [.slot 68], none⟩])
 (.ret))))
def F_value_Right : IFun := ⟨69, [.slot 2], b_value_Right, 3, 0, nofn⟩
theorem c_value_Right : cFun Tryz.prog [1048577, 1048579] 0 f_value_Right = some F_value_Right := by kernel_rfl

def L0_value_plain : ICode :=
 .seq
 (.region [
 ⟨(some 7), none, .next, [.slot 6], none⟩,
 ⟨(some 8), none, .extract 0, [.slot 7], none⟩])
 (.seq
 (.cond (.slot 8)
 (.skip)
 (.exit 0))
 (.block 1
 (.seq
 (.region [
 ⟨(some 9), none, .extract 2, [.slot 7], none⟩,
 ⟨(some 4), none, .id, [.slot 9], none⟩])
 (.seq
 (.region [
 ⟨(some 10), none, .id, [.slot 4], none⟩,
 ⟨(some 11), none, .bin .lss, [.slot 10, .val (.int .i32 32)], none⟩,
 ⟨(some 12), none, .id, [.slot 11], none⟩,
 ⟨(some 13), (some (12, false)), .id, [.slot 4], none⟩,
 ⟨(some 14), (some (12, false)), .bin .gtr, [.slot 13, .val (.int .i32 126)], none⟩,
 ⟨(some 15), none, .pick, [.slot 12, .val (.bool true), .slot 14], none⟩])
 (.cond (.slot 15)
 (.seq
 (.region [
 ⟨(some 2), none, .id, [.val (.bool false)], none⟩])
 (.ret))
 (.skip))))))
def b_value_plain : ICode :=
 .seq
 (.region [
 ⟨(some 2), none, .id, [.val (.bool false)], none⟩])
 (.seq
 (.seq
 (.region [
 ⟨(some 5), none, .id, [.slot 0], none⟩,
 ⟨(some 6), none, .range, [.slot 5], none⟩])
 (.block 0
 (.loop L0_value_plain)))
 (.seq
 (.region [
 ⟨(some 16), none, .id, [.slot 0], none⟩,
 ⟨(some 17), none, .lenstr, [.slot 16], none⟩,
 ⟨(some 18), none, .bin .leq, [.slot 17, .val (.int .i64 64)], none⟩,
 ⟨(some 2), none, .id, [.slot 18], none⟩])
 (.ret)))
def F_value_plain : IFun := ⟨19, [.slot 2], b_value_plain, 3, 0, nofn⟩
theorem c_value_plain : cFun Tryz.prog [] 0 f_value_plain = some F_value_plain := by kernel_rfl

def b_value_Link : ICode :=
 .seq
 (.region [
 ⟨(some 1), none, .boxL, [.slot 0], none⟩,
 ⟨(some 2), none, .allocL [(.str ⟨#[]⟩), (.str ⟨#[]⟩), (.str ⟨#[]⟩)], [], none⟩,
 ⟨(some 3), none, .id, [.val (.bool false)], none⟩])
 (.seq
 (.region [
 ⟨(some 5), none, .faddr 2, [.slot 1], none⟩,
 ⟨(some 6), none, .load 1 false, [.slot 5], none⟩,
 ⟨(some 7), none, .call f_strings_Split, [.slot 6, .val (.str ⟨#[62]⟩)], none⟩,
 ⟨(some 4), none, .id, [.slot 7], none⟩])
 (.seq
 (.seq
 (.region [
 ⟨(some 8), none, .faddr 0, [.slot 1], none⟩,
 ⟨(some 9), none, .load 1 false, [.slot 8], none⟩,
 ⟨(some 10), none, .bin .neq, [.slot 9, .val (.int .i64 5)], none⟩,
 ⟨(some 11), none, .id, [.slot 10], none⟩,
 ⟨(some 12), (some (11, false)), .faddr 1, [.slot 1], none⟩,
 ⟨(some 13), (some (11, false)), .load 1 false, [.slot 12], none⟩,
 ⟨(some 14), (some (11, false)), .bin .neq, [.slot 13, .val (.int .i64 0)], none⟩,
 ⟨(some 15), none, .pick, [.slot 11, .val (.bool true), .slot 14], none⟩,
 ⟨(some 16), none, .id, [.slot 15], none⟩,
 ⟨(some 17), (some (16, false)), .id, [.slot 4], none⟩,
 ⟨(some 18), (some (16, false)), .lensl, [.slot 17], none⟩,
 ⟨(some 19), (some (16, false)), .bin .neq, [.slot 18, .val (.int .i64 3)], none⟩,
 ⟨(some 20), none, .pick, [.slot 16, .val (.bool true), .slot 19], none⟩,
 ⟨(some 21), none, .id, [.slot 20], none⟩,
 ⟨(some 22), (some (21, false)), .id, [.slot 4], none⟩,
 ⟨(some 23), (some (21, false)), .call f_value_names, [.slot 22], none⟩,
 ⟨(some 24), (some (21, false)), .un .not, [.slot 23], none⟩,
 ⟨(some 25), none, .pick, [.slot 21, .val (.bool true), .slot 24], none⟩])
 (.cond (.slot 25)
 (.seq
 (.region [
 ⟨(some 26), none, .build [(.str ⟨#[]⟩), (.str ⟨#[]⟩), (.str ⟨#[]⟩)] [], [], none⟩,
 ⟨none, none, .store 3, [.slot 2, .slot 26], none⟩,
 ⟨(some 3), none, .id, [.val (.bool false)], none⟩])
 (.ret))
 (.skip)))
 (.seq
 (.region [
 ⟨(some 27), none, .id, [.slot 4], none⟩,
 ⟨(some 28), none, .ixaddr 1, [.slot 27, .val (.int .i64 0)], none⟩,
 ⟨(some 29), none, .load 1 false, [.slot 28], (some (.el))⟩,
 ⟨(some 30), none, .id, [.slot 4], none⟩,
 ⟨(some 31), none, .ixaddr 1, [.slot 30, .val (.int .i64 1)], none⟩,
 ⟨(some 32), none, .load 1 false, [.slot 31], (some (.el))⟩,
 ⟨(some 33), none, .id, [.slot 4], none⟩,
 ⟨(some 34), none, .ixaddr 1, [.slot 33, .val (.int .i64 2)], none⟩,
 ⟨(some 35), none, .load 1 false, [.slot 34], (some (.el))⟩,
 ⟨(some 36), none, .build [(.str ⟨#[]⟩), (.str ⟨#[]⟩), (.str ⟨#[]⟩)] [(0, 1), (2, 1), (1, 1)], [.slot 29, .slot 32, .slot 35], none⟩,
 ⟨none, none, .store 3, [.slot 2, .slot 36], (some (.loc 2))⟩,
 ⟨(some 3), none, .id, [.val (.bool true)], none⟩])
 (.ret))))
def F_value_Link : IFun := ⟨37, [.cell 2 3 true, .slot 3], b_value_Link, 3, 0, nofn⟩
theorem c_value_Link : cFun Tryz.prog [1048577, 1048578, 2097304] 0 f_value_Link = some F_value_Link := by kernel_rfl

def F_strings_Split : IFun := ⟨8, [], .trap, 0, 11, nofn⟩

def rows : List (Nat × List Nat × IFun) := [
 (5, [1048582, 1048586, 2097160, 2097171], F_hedgerowlaw07_StoreCopies),
 (6, [1048579, 1048582, 1048585, 1048588, 1048591, 1048593, 1048596, 2097160, 3145786], F_hedgerowlaw07_StoreValues),
 (8, [1048577, 2097171], F_hedgerowlaw07_fixed),
 (9, [1048580], F_hedgerowlaw07_few),
 (10, [1048579, 1048581, 1048583], F_hedgerowref07_Causal),
 (11, [3], F_store_New),
 (12, [3, 1048582, 8388613], F_store_Store_Do),
 (15, [1048579, 1048583, 1048586], F_hedgerowref07_Live),
 (17, [1048579, 8388612], F_store_Store_Entries),
 (18, [1048579], F_store_Store_Has),
 (19, [], F_store_Store_Len),
 (20, [1048579, 1048582], F_store_Store_Put),
 (21, [1048579, 1048583, 16777236], F_store_Store_Values),
 (22, [1048578, 1048579], F_hedgerowref01_Compare),
 (24, [1048577], F_hedgerowref06_Short),
 (29, [1048578, 1048579], F_store_Order),
 (30, [1048577, 1048579], F_hedgerowref06_Right),
 (31, [1048577], F_event_Right),
 (32, [1048583], F_slices_DeleteFuncstore_Entrystore_Entry),
 (33, [16777223], F_slices_Clonestore_Entrystore_Entry),
 (34, [1048578], F_store_Store_Do_1),
 (35, [1048578, 1048579], F_vector_Knows),
 (36, [1048580], F_slices_BinarySearchFuncstore_Entrystore_Entrystore_Entry),
 (37, [1048578, 1048579], F_store_byDot),
 (38, [], F_slices_Insertstore_Entrystore_Entry),
 (39, [1048580], F_store_Store_lay),
 (40, [], F_slices_SortFuncstore_Itemstore_Item),
 (41, [1048578, 1048579], F_store_Store_All_1),
 (43, [1048578, 1048579], F_hedgerowref07_knows),
 (45, [1048577], F_value_Elem),
 (46, [1048578, 1048579], F_store_entry),
 (47, [], F_slices_SortFuncapi_Valueapi_Value),
 (48, [1048578, 1048579], F_value_Compare),
 (49, [3145746, 3145751, 3145765, 3145770], F_slices_Compactapi_Valueapi_Value),
 (67, [], F_cmp_Orint),
 (68, [], F_cmp_Compareint),
 (69, [], F_cmp_Comparestring),
 (70, [1048577], F_hedgerowref06_Change),
 (71, [1048578, 1048579], F_vector_Next),
 (72, [1048577], F_vector_Right),
 (73, [1048577], F_event_Change),
 (74, [1048577, 1048578], F_event_Of),
 (75, [], F_slices_IndexFuncstore_Entrystore_Entry),
 (76, [1048577], F_vector_Dot),
 (82, [], F_value_names),
 (83, [2097263], F_value_empty),
 (94, [], F_cmp_isNaNint),
 (95, [], F_cmp_isNaNstring),
 (96, [1048577], F_hedgerowref01_Elem),
 (97, [1048577, 1048579, 2097277], F_hedgerowref01_Right),
 (98, [1048577], F_event_may),
 (110, [], F_value_Name),
 (111, [], F_strings_Join),
 (123, [], F_hedgerowref01_Name),
 (124, [], F_hedgerowref01_plain),
 (125, [1048578, 3145765, 3145768, 3145771], F_hedgerowref01_Link),
 (126, [1048577], F_event_kept),
 (127, [1048577], F_event_scalar),
 (134, [], F_value_letter),
 (135, [], F_value_inner),
 (142, [7, 3145758, 3145766], F_hedgerowref01_Split),
 (143, [1048577, 1048579], F_value_Right),
 (148, [], F_value_plain),
 (149, [1048577, 1048578, 2097304], F_value_Link),
 (152, [], F_strings_Split)]
def T : Nat → Option IFun := tableOf rows
theorem T_rows : RowsOk Tryz.prog rows :=
 .cons c_hedgerowlaw07_StoreCopies (by decide) <|
 .cons c_hedgerowlaw07_StoreValues (by decide) <|
 .cons c_hedgerowlaw07_fixed (by decide) <|
 .cons c_hedgerowlaw07_few (by decide) <|
 .cons c_hedgerowref07_Causal (by decide) <|
 .cons c_store_New (by decide) <|
 .cons c_store_Store_Do (by decide) <|
 .cons c_hedgerowref07_Live (by decide) <|
 .cons c_store_Store_Entries (by decide) <|
 .cons c_store_Store_Has (by decide) <|
 .lib libfn_store_Store_Len (by decide) <|
 .cons c_store_Store_Put (by decide) <|
 .cons c_store_Store_Values (by decide) <|
 .cons c_hedgerowref01_Compare (by decide) <|
 .cons c_hedgerowref06_Short (by decide) <|
 .cons c_store_Order (by decide) <|
 .cons c_hedgerowref06_Right (by decide) <|
 .cons c_event_Right (by decide) <|
 .cons c_slices_DeleteFuncstore_Entrystore_Entry (by decide) <|
 .cons c_slices_Clonestore_Entrystore_Entry (by decide) <|
 .cons c_store_Store_Do_1 (by decide) <|
 .cons c_vector_Knows (by decide) <|
 .cons c_slices_BinarySearchFuncstore_Entrystore_Entrystore_Entry (by decide) <|
 .cons c_store_byDot (by decide) <|
 .lib libfn_slices_Insertstore_Entrystore_Entry (by decide) <|
 .cons c_store_Store_lay (by decide) <|
 .lib libfn_slices_SortFuncstore_Itemstore_Item (by decide) <|
 .cons c_store_Store_All_1 (by decide) <|
 .cons c_hedgerowref07_knows (by decide) <|
 .cons c_value_Elem (by decide) <|
 .cons c_store_entry (by decide) <|
 .lib libfn_slices_SortFuncapi_Valueapi_Value (by decide) <|
 .cons c_value_Compare (by decide) <|
 .cons c_slices_Compactapi_Valueapi_Value (by decide) <|
 .cons c_cmp_Orint (by decide) <|
 .cons c_cmp_Compareint (by decide) <|
 .cons c_cmp_Comparestring (by decide) <|
 .cons c_hedgerowref06_Change (by decide) <|
 .cons c_vector_Next (by decide) <|
 .cons c_vector_Right (by decide) <|
 .cons c_event_Change (by decide) <|
 .cons c_event_Of (by decide) <|
 .cons c_slices_IndexFuncstore_Entrystore_Entry (by decide) <|
 .cons c_vector_Dot (by decide) <|
 .cons c_value_names (by decide) <|
 .cons c_value_empty (by decide) <|
 .cons c_cmp_isNaNint (by decide) <|
 .cons c_cmp_isNaNstring (by decide) <|
 .cons c_hedgerowref01_Elem (by decide) <|
 .cons c_hedgerowref01_Right (by decide) <|
 .cons c_event_may (by decide) <|
 .cons c_value_Name (by decide) <|
 .lib lib10 (by decide) <|
 .cons c_hedgerowref01_Name (by decide) <|
 .cons c_hedgerowref01_plain (by decide) <|
 .cons c_hedgerowref01_Link (by decide) <|
 .cons c_event_kept (by decide) <|
 .cons c_event_scalar (by decide) <|
 .cons c_value_letter (by decide) <|
 .cons c_value_inner (by decide) <|
 .cons c_hedgerowref01_Split (by decide) <|
 .cons c_value_Right (by decide) <|
 .cons c_value_plain (by decide) <|
 .cons c_value_Link (by decide) <|
 .lib lib11 (by decide) <|
 .nil
theorem T_ok : TableOk Tryz.prog T := tableOf_ok (by kernel_rfl) T_rows.all
theorem T_hedgerowlaw07_StoreCopies : T f_hedgerowlaw07_StoreCopies = some F_hedgerowlaw07_StoreCopies := by kernel_rfl
theorem T_hedgerowlaw07_StoreValues : T f_hedgerowlaw07_StoreValues = some F_hedgerowlaw07_StoreValues := by kernel_rfl
theorem T_hedgerowlaw07_fixed : T f_hedgerowlaw07_fixed = some F_hedgerowlaw07_fixed := by kernel_rfl
theorem T_hedgerowlaw07_few : T f_hedgerowlaw07_few = some F_hedgerowlaw07_few := by kernel_rfl
theorem T_hedgerowref07_Causal : T f_hedgerowref07_Causal = some F_hedgerowref07_Causal := by kernel_rfl
theorem T_store_New : T f_store_New = some F_store_New := by kernel_rfl
theorem T_store_Store_Do : T f_store_Store_Do = some F_store_Store_Do := by kernel_rfl
theorem T_hedgerowref07_Live : T f_hedgerowref07_Live = some F_hedgerowref07_Live := by kernel_rfl
theorem T_store_Store_Entries : T f_store_Store_Entries = some F_store_Store_Entries := by kernel_rfl
theorem T_store_Store_Has : T f_store_Store_Has = some F_store_Store_Has := by kernel_rfl
theorem T_store_Store_Len : T f_store_Store_Len = some F_store_Store_Len := by kernel_rfl
theorem T_store_Store_Put : T f_store_Store_Put = some F_store_Store_Put := by kernel_rfl
theorem T_store_Store_Values : T f_store_Store_Values = some F_store_Store_Values := by kernel_rfl
theorem T_hedgerowref01_Compare : T f_hedgerowref01_Compare = some F_hedgerowref01_Compare := by kernel_rfl
theorem T_hedgerowref06_Short : T f_hedgerowref06_Short = some F_hedgerowref06_Short := by kernel_rfl
theorem T_store_Order : T f_store_Order = some F_store_Order := by kernel_rfl
theorem T_hedgerowref06_Right : T f_hedgerowref06_Right = some F_hedgerowref06_Right := by kernel_rfl
theorem T_event_Right : T f_event_Right = some F_event_Right := by kernel_rfl
theorem T_slices_DeleteFuncstore_Entrystore_Entry : T f_slices_DeleteFuncstore_Entrystore_Entry = some F_slices_DeleteFuncstore_Entrystore_Entry := by kernel_rfl
theorem T_slices_Clonestore_Entrystore_Entry : T f_slices_Clonestore_Entrystore_Entry = some F_slices_Clonestore_Entrystore_Entry := by kernel_rfl
theorem T_store_Store_Do_1 : T f_store_Store_Do_1 = some F_store_Store_Do_1 := by kernel_rfl
theorem T_vector_Knows : T f_vector_Knows = some F_vector_Knows := by kernel_rfl
theorem T_slices_BinarySearchFuncstore_Entrystore_Entrystore_Entry : T f_slices_BinarySearchFuncstore_Entrystore_Entrystore_Entry = some F_slices_BinarySearchFuncstore_Entrystore_Entrystore_Entry := by kernel_rfl
theorem T_store_byDot : T f_store_byDot = some F_store_byDot := by kernel_rfl
theorem T_slices_Insertstore_Entrystore_Entry : T f_slices_Insertstore_Entrystore_Entry = some F_slices_Insertstore_Entrystore_Entry := by kernel_rfl
theorem T_store_Store_lay : T f_store_Store_lay = some F_store_Store_lay := by kernel_rfl
theorem T_slices_SortFuncstore_Itemstore_Item : T f_slices_SortFuncstore_Itemstore_Item = some F_slices_SortFuncstore_Itemstore_Item := by kernel_rfl
theorem T_store_Store_All_1 : T f_store_Store_All_1 = some F_store_Store_All_1 := by kernel_rfl
theorem T_hedgerowref07_knows : T f_hedgerowref07_knows = some F_hedgerowref07_knows := by kernel_rfl
theorem T_value_Elem : T f_value_Elem = some F_value_Elem := by kernel_rfl
theorem T_store_entry : T f_store_entry = some F_store_entry := by kernel_rfl
theorem T_slices_SortFuncapi_Valueapi_Value : T f_slices_SortFuncapi_Valueapi_Value = some F_slices_SortFuncapi_Valueapi_Value := by kernel_rfl
theorem T_value_Compare : T f_value_Compare = some F_value_Compare := by kernel_rfl
theorem T_slices_Compactapi_Valueapi_Value : T f_slices_Compactapi_Valueapi_Value = some F_slices_Compactapi_Valueapi_Value := by kernel_rfl
theorem T_cmp_Orint : T f_cmp_Orint = some F_cmp_Orint := by kernel_rfl
theorem T_cmp_Compareint : T f_cmp_Compareint = some F_cmp_Compareint := by kernel_rfl
theorem T_cmp_Comparestring : T f_cmp_Comparestring = some F_cmp_Comparestring := by kernel_rfl
theorem T_hedgerowref06_Change : T f_hedgerowref06_Change = some F_hedgerowref06_Change := by kernel_rfl
theorem T_vector_Next : T f_vector_Next = some F_vector_Next := by kernel_rfl
theorem T_vector_Right : T f_vector_Right = some F_vector_Right := by kernel_rfl
theorem T_event_Change : T f_event_Change = some F_event_Change := by kernel_rfl
theorem T_event_Of : T f_event_Of = some F_event_Of := by kernel_rfl
theorem T_slices_IndexFuncstore_Entrystore_Entry : T f_slices_IndexFuncstore_Entrystore_Entry = some F_slices_IndexFuncstore_Entrystore_Entry := by kernel_rfl
theorem T_vector_Dot : T f_vector_Dot = some F_vector_Dot := by kernel_rfl
theorem T_value_names : T f_value_names = some F_value_names := by kernel_rfl
theorem T_value_empty : T f_value_empty = some F_value_empty := by kernel_rfl
theorem T_cmp_isNaNint : T f_cmp_isNaNint = some F_cmp_isNaNint := by kernel_rfl
theorem T_cmp_isNaNstring : T f_cmp_isNaNstring = some F_cmp_isNaNstring := by kernel_rfl
theorem T_hedgerowref01_Elem : T f_hedgerowref01_Elem = some F_hedgerowref01_Elem := by kernel_rfl
theorem T_hedgerowref01_Right : T f_hedgerowref01_Right = some F_hedgerowref01_Right := by kernel_rfl
theorem T_event_may : T f_event_may = some F_event_may := by kernel_rfl
theorem T_value_Name : T f_value_Name = some F_value_Name := by kernel_rfl
theorem T_strings_Join : T f_strings_Join = some F_strings_Join := by kernel_rfl
theorem T_hedgerowref01_Name : T f_hedgerowref01_Name = some F_hedgerowref01_Name := by kernel_rfl
theorem T_hedgerowref01_plain : T f_hedgerowref01_plain = some F_hedgerowref01_plain := by kernel_rfl
theorem T_hedgerowref01_Link : T f_hedgerowref01_Link = some F_hedgerowref01_Link := by kernel_rfl
theorem T_event_kept : T f_event_kept = some F_event_kept := by kernel_rfl
theorem T_event_scalar : T f_event_scalar = some F_event_scalar := by kernel_rfl
theorem T_value_letter : T f_value_letter = some F_value_letter := by kernel_rfl
theorem T_value_inner : T f_value_inner = some F_value_inner := by kernel_rfl
theorem T_hedgerowref01_Split : T f_hedgerowref01_Split = some F_hedgerowref01_Split := by kernel_rfl
theorem T_value_Right : T f_value_Right = some F_value_Right := by kernel_rfl
theorem T_value_plain : T f_value_plain = some F_value_plain := by kernel_rfl
theorem T_value_Link : T f_value_Link = some F_value_Link := by kernel_rfl
theorem T_strings_Split : T f_strings_Split = some F_strings_Split := by kernel_rfl
end Go.Proofs.YthmplnbogdfajaaGreatDoor
