/- Own work: the shadow machine and what it shows, part Fun. -/
import Derived.Test.YthbhfipgdinihaaGreatDoorChecked
import Derived.Test.YthbhfipgdinihaaGreatDoorShT
import Derived.Test.YthbhfipgdinihaaGreatDoorLib
set_option linter.all false

namespace Go.Proofs.YthbhfipgdinihaaGreatDoor
open Go.Sh
set_option maxRecDepth 100000

abbrev f_hedgerowlaw12_SnapBytes : Nat := 3
abbrev f_hedgerowlaw12_SnapParses : Nat := 4
abbrev f_hedgerowlaw12_fixed : Nat := 17
abbrev f_hedgerowlaw12_few : Nat := 18
abbrev f_snap_Bytes : Nat := 19
abbrev f_hedgerowlaw12_right : Nat := 20
abbrev f_snap_Right : Nat := 21
abbrev f_snap_Parse : Nat := 22
abbrev f_hedgerowref12_Bytes : Nat := 23
abbrev f_hedgerowlaw12_items : Nat := 24
abbrev f_snap_Same : Nat := 25
abbrev f_hedgerowref06_Short : Nat := 26
abbrev f_store_New : Nat := 28
abbrev f_store_Store_Put : Nat := 40
abbrev f_num_Put : Nat := 73
abbrev f_snap_putItem : Nat := 74
abbrev f_event_Put : Nat := 75
abbrev f_hedgerowref07_Less : Nat := 76
abbrev f_hedgerowref06_Change : Nat := 77
abbrev f_hedgerowref07_First : Nat := 78
abbrev f_hedgerowref06_Right : Nat := 79
abbrev f_vector_Right : Nat := 80
abbrev f_snap_item : Nat := 81
abbrev f_store_Order : Nat := 82
abbrev f_event_Right : Nat := 83
abbrev f_vector_Knows : Nat := 84
abbrev f_num_Read : Nat := 85
abbrev f_num_Reader_Num : Nat := 86
abbrev f_snap_rowsstore_Item : Nat := 87
abbrev f_snap_readItem : Nat := 88
abbrev f_snap_rowsapi_Event : Nat := 89
abbrev f_snap_Parse_1 : Nat := 90
abbrev f_event_Read : Nat := 91
abbrev f_num_Reader_Fail : Nat := 92
abbrev f_num_Reader_Done : Nat := 93
abbrev f_hedgerowref02_Put : Nat := 94
abbrev f_hedgerowref02_Text : Nat := 95
abbrev f_hedgerowref02_Signed : Nat := 96
abbrev f_hedgerowref06_Put : Nat := 97
abbrev f_snap_Same_1 : Nat := 98
abbrev f_slices_Equalstore_Entrystore_Entry : Nat := 99
abbrev f_slices_EqualFuncstore_Itemstore_Itemstore_Itemstore_Item : Nat := 100
abbrev f_slices_Equalapi_Eventapi_Event : Nat := 101
abbrev f_slices_Clonestore_Entrystore_Entry : Nat := 103
abbrev f_store_byDot : Nat := 106
abbrev f_store_Store_lay : Nat := 108
abbrev f_value_Elem : Nat := 113
abbrev f_store_entry : Nat := 114
abbrev f_strings_Join : Nat := 121
abbrev f_num_Text : Nat := 133
abbrev f_snap_putValue : Nat := 134
abbrev f_num_Signed : Nat := 135
abbrev f_hedgerowref01_Elem : Nat := 136
abbrev f_hedgerowref01_Right : Nat := 137
abbrev f_snap_item_1 : Nat := 138
abbrev f_slices_ContainsFuncstore_Entrystore_Entry : Nat := 139
abbrev f_cmp_Orint : Nat := 140
abbrev f_cmp_Compareint : Nat := 141
abbrev f_cmp_Comparestring : Nat := 142
abbrev f_vector_Next : Nat := 143
abbrev f_event_Change : Nat := 144
abbrev f_event_Of : Nat := 145
abbrev f_vector_Dot : Nat := 146
abbrev f_num_take : Nat := 147
abbrev f_num_Reader_Text : Nat := 148
abbrev f_snap_rowsstore_Entry : Nat := 149
abbrev f_snap_readEntry : Nat := 150
abbrev f_event_next : Nat := 151
abbrev f_slices_IndexFuncstore_Entrystore_Entry : Nat := 152
abbrev f_value_names : Nat := 157
abbrev f_value_empty : Nat := 158
abbrev f_hedgerowref01_Name : Nat := 171
abbrev f_hedgerowref01_plain : Nat := 172
abbrev f_hedgerowref01_Link : Nat := 173
abbrev f_cmp_isNaNint : Nat := 174
abbrev f_cmp_isNaNstring : Nat := 175
abbrev f_event_may : Nat := 176
abbrev f_num_Reader_Signed : Nat := 177
abbrev f_value_Name : Nat := 189
abbrev f_value_Right : Nat := 203
abbrev f_hedgerowref01_Split : Nat := 210
abbrev f_event_kept : Nat := 211
abbrev f_event_scalar : Nat := 212
abbrev f_value_letter : Nat := 219
abbrev f_value_inner : Nat := 220
abbrev f_value_plain : Nat := 234
abbrev f_value_Link : Nat := 235
abbrev f_strings_Split : Nat := 244
def b_hedgerowlaw12_SnapBytes : ICode :=
 .seq
 (.region [
 ⟨(some 1), none, .boxL, [.slot 0], none⟩,
 ⟨(some 2), none, .id, [.val (.bool false)], none⟩])
 (.seq
 (.seq
 (.region [
 ⟨(some 7), none, .call f_hedgerowlaw12_fixed, [], none⟩,
 ⟨(some 8), none, .un .not, [.slot 7], none⟩])
 (.cond (.slot 8)
 (.seq
 (.region [
 ⟨(some 2), none, .id, [.val (.bool false)], none⟩])
 (.ret))
 (.skip)))
 (.seq
 (.seq
 (.region [
 ⟨(some 9), none, .load 18 true, [.slot 1], none⟩,
 ⟨(some 10), none, .call f_hedgerowlaw12_few, [.slot 9], none⟩,
 ⟨(some 11), none, .un .not, [.slot 10], none⟩])
 (.cond (.slot 11)
 (.seq
 (.region [
 ⟨(some 2), none, .id, [.val (.bool true)], none⟩])
 (.ret))
 (.skip)))
 (.seq
 (.region [
 ⟨(some 13), none, .load 18 true, [.slot 1], none⟩,
 ⟨(some 14), none, .call f_snap_Bytes, [.slot 13], none⟩,
 ⟨(some 12), none, .id, [.slot 14], none⟩,
 ⟨(some 15), none, .extract 0, [.slot 12], none⟩,
 ⟨(some 16), none, .extract 1, [.slot 12], none⟩,
 ⟨(some 3), none, .id, [.slot 15], none⟩,
 ⟨(some 4), none, .id, [.slot 16], none⟩])
 (.seq
 (.seq
 (.region [
 ⟨(some 17), none, .load 18 true, [.slot 1], none⟩,
 ⟨(some 18), none, .call f_hedgerowlaw12_right, [.slot 17], none⟩,
 ⟨(some 19), none, .un .not, [.slot 18], none⟩])
 (.cond (.slot 19)
 (.seq
 (.region [
 ⟨(some 20), none, .id, [.slot 4], none⟩,
 ⟨(some 21), none, .bin .eql, [.slot 20, .val (.int .i64 1)], none⟩,
 ⟨(some 22), none, .id, [.slot 21], none⟩,
 ⟨(some 23), (some (22, true)), .id, [.slot 3], none⟩,
 ⟨(some 24), (some (22, true)), .lensl, [.slot 23], none⟩,
 ⟨(some 25), (some (22, true)), .bin .eql, [.slot 24, .val (.int .i64 0)], none⟩,
 ⟨(some 26), none, .pick, [.slot 22, .slot 25, .val (.bool false)], none⟩,
 ⟨(some 27), none, .id, [.slot 26], none⟩,
 ⟨(some 28), (some (27, true)), .load 18 true, [.slot 1], none⟩,
 ⟨(some 29), (some (27, true)), .call f_snap_Right, [.slot 28], none⟩,
 ⟨(some 30), (some (27, true)), .bin .eql, [.slot 29, .val (.int .i64 1)], none⟩,
 ⟨(some 31), none, .pick, [.slot 27, .slot 30, .val (.bool false)], none⟩,
 ⟨(some 2), none, .id, [.slot 31], none⟩])
 (.ret))
 (.skip)))
 (.seq
 (.region [
 ⟨(some 33), none, .id, [.slot 3], none⟩,
 ⟨(some 34), none, .call f_snap_Parse, [.slot 33], none⟩,
 ⟨(some 32), none, .id, [.slot 34], none⟩,
 ⟨(some 35), none, .extract 0, [.slot 32], none⟩,
 ⟨(some 36), none, .extract 1, [.slot 32], none⟩,
 ⟨(some 5), none, .allocL [(.int .i64 0), (.int .i64 0), (.int .i64 0), (.int .i64 0), (.int .i64 0), (.int .i64 0), (.int .i64 0), (.int .i64 0), (.int .i64 0), (.int .i64 0), (.int .i64 0), (.int .i64 0), (.int .i64 0), (.int .i64 0), (.int .i64 0), (.int .i64 0), .nilsl, .nilsl], [], none⟩,
 ⟨none, none, .store 18, [.slot 5, .slot 35], none⟩,
 ⟨(some 6), none, .id, [.slot 36], none⟩])
 (.seq
 (.region [
 ⟨(some 37), none, .id, [.slot 4], none⟩,
 ⟨(some 38), none, .bin .eql, [.slot 37, .val (.int .i64 0)], none⟩,
 ⟨(some 39), none, .id, [.slot 38], none⟩,
 ⟨(some 40), (some (39, true)), .load 18 true, [.slot 1], (some (.loc 1))⟩,
 ⟨(some 41), (some (39, true)), .call f_snap_Right, [.slot 40], none⟩,
 ⟨(some 42), (some (39, true)), .bin .eql, [.slot 41, .val (.int .i64 0)], none⟩,
 ⟨(some 43), none, .pick, [.slot 39, .slot 42, .val (.bool false)], none⟩,
 ⟨(some 44), none, .id, [.slot 43], none⟩,
 ⟨(some 45), (some (44, true)), .id, [.slot 3], none⟩,
 ⟨(some 46), (some (44, true)), .b2s, [.slot 45], none⟩,
 ⟨(some 47), (some (44, true)), .faddr 0, [.slot 1], none⟩,
 ⟨(some 48), (some (44, true)), .load 16 true, [.slot 47], (some (.loc 1))⟩,
 ⟨(some 49), (some (44, true)), .faddr 16, [.slot 1], none⟩,
 ⟨(some 50), (some (44, true)), .load 1 false, [.slot 49], (some (.loc 1))⟩,
 ⟨(some 51), (some (44, true)), .callP f_hedgerowlaw12_items, [.slot 50], none⟩,
 ⟨(some 52), (some (44, true)), .faddr 17, [.slot 1], none⟩,
 ⟨(some 53), (some (44, true)), .load 1 false, [.slot 52], (some (.loc 1))⟩,
 ⟨(some 54), (some (44, true)), .callP f_hedgerowref12_Bytes, [.slot 48, .slot 51, .slot 53], none⟩,
 ⟨(some 55), (some (44, true)), .b2s, [.slot 54], none⟩,
 ⟨(some 56), (some (44, true)), .bin .eql, [.slot 46, .slot 55], none⟩,
 ⟨(some 57), none, .pick, [.slot 44, .slot 56, .val (.bool false)], none⟩,
 ⟨(some 58), none, .id, [.slot 57], none⟩,
 ⟨(some 59), (some (58, true)), .id, [.slot 6], none⟩,
 ⟨(some 60), (some (58, true)), .bin .eql, [.slot 59, .val (.int .i64 0)], none⟩,
 ⟨(some 61), none, .pick, [.slot 58, .slot 60, .val (.bool false)], none⟩,
 ⟨(some 62), none, .id, [.slot 61], none⟩,
 ⟨(some 63), (some (62, true)), .load 18 true, [.slot 1], (some (.loc 1))⟩,
 ⟨(some 64), (some (62, true)), .load 18 true, [.slot 5], (some (.loc 5))⟩,
 ⟨(some 65), (some (62, true)), .call f_snap_Same, [.slot 63, .slot 64], none⟩,
 ⟨(some 66), none, .pick, [.slot 62, .slot 65, .val (.bool false)], none⟩,
 ⟨(some 2), none, .id, [.slot 66], none⟩])
 (.ret)))))))
def F_hedgerowlaw12_SnapBytes : IFun := ⟨67, [.slot 2], b_hedgerowlaw12_SnapBytes, 6, 0, nofn⟩
theorem c_hedgerowlaw12_SnapBytes : cFun Tryz.prog [1048577, 1048581, 2097169, 2097171, 2097174, 2097176, 2097175] 0 f_hedgerowlaw12_SnapBytes = some F_hedgerowlaw12_SnapBytes := by kernel_rfl

def b_hedgerowlaw12_SnapParses : ICode :=
 .seq
 (.region [
 ⟨(some 2), none, .id, [.val (.bool false)], none⟩])
 (.seq
 (.seq
 (.region [
 ⟨(some 5), none, .call f_hedgerowlaw12_fixed, [], none⟩,
 ⟨(some 6), none, .un .not, [.slot 5], none⟩])
 (.cond (.slot 6)
 (.seq
 (.region [
 ⟨(some 2), none, .id, [.val (.bool false)], none⟩])
 (.ret))
 (.skip)))
 (.seq
 (.seq
 (.region [
 ⟨(some 7), none, .id, [.slot 0], none⟩,
 ⟨(some 8), none, .lensl, [.slot 7], none⟩,
 ⟨(some 9), none, .bin .gtr, [.slot 8, .val (.int .i64 600)], none⟩])
 (.cond (.slot 9)
 (.seq
 (.region [
 ⟨(some 2), none, .id, [.val (.bool true)], none⟩])
 (.ret))
 (.skip)))
 (.seq
 (.region [
 ⟨(some 11), none, .id, [.slot 0], none⟩,
 ⟨(some 12), none, .call f_snap_Parse, [.slot 11], none⟩,
 ⟨(some 10), none, .id, [.slot 12], none⟩,
 ⟨(some 13), none, .extract 0, [.slot 10], none⟩,
 ⟨(some 14), none, .extract 1, [.slot 10], none⟩,
 ⟨(some 3), none, .allocL [(.int .i64 0), (.int .i64 0), (.int .i64 0), (.int .i64 0), (.int .i64 0), (.int .i64 0), (.int .i64 0), (.int .i64 0), (.int .i64 0), (.int .i64 0), (.int .i64 0), (.int .i64 0), (.int .i64 0), (.int .i64 0), (.int .i64 0), (.int .i64 0), .nilsl, .nilsl], [], none⟩,
 ⟨none, none, .store 18, [.slot 3, .slot 13], none⟩,
 ⟨(some 4), none, .id, [.slot 14], none⟩])
 (.seq
 (.seq
 (.region [
 ⟨(some 15), none, .id, [.slot 4], none⟩,
 ⟨(some 16), none, .bin .neq, [.slot 15, .val (.int .i64 0)], none⟩])
 (.cond (.slot 16)
 (.seq
 (.region [
 ⟨(some 17), none, .id, [.slot 4], none⟩,
 ⟨(some 18), none, .bin .eql, [.slot 17, .val (.int .i64 2)], none⟩,
 ⟨(some 19), none, .id, [.slot 18], none⟩,
 ⟨(some 20), (some (19, false)), .id, [.slot 4], none⟩,
 ⟨(some 21), (some (19, false)), .bin .eql, [.slot 20, .val (.int .i64 1)], none⟩,
 ⟨(some 22), none, .pick, [.slot 19, .val (.bool true), .slot 21], none⟩,
 ⟨(some 23), none, .id, [.slot 22], none⟩,
 ⟨(some 24), (some (23, true)), .load 18 true, [.slot 3], none⟩,
 ⟨(some 25), (some (23, true)), .build [(.int .i64 0), (.int .i64 0), (.int .i64 0), (.int .i64 0), (.int .i64 0), (.int .i64 0), (.int .i64 0), (.int .i64 0), (.int .i64 0), (.int .i64 0), (.int .i64 0), (.int .i64 0), (.int .i64 0), (.int .i64 0), (.int .i64 0), (.int .i64 0), .nilsl, .nilsl] [], [], none⟩,
 ⟨(some 26), (some (23, true)), .call f_snap_Same, [.slot 24, .slot 25], none⟩,
 ⟨(some 27), none, .pick, [.slot 23, .slot 26, .val (.bool false)], none⟩,
 ⟨(some 2), none, .id, [.slot 27], none⟩])
 (.ret))
 (.skip)))
 (.seq
 (.region [
 ⟨(some 28), none, .load 18 true, [.slot 3], (some (.loc 3))⟩,
 ⟨(some 29), none, .call f_hedgerowlaw12_right, [.slot 28], none⟩,
 ⟨(some 30), none, .id, [.slot 29], none⟩,
 ⟨(some 31), (some (30, true)), .faddr 0, [.slot 3], none⟩,
 ⟨(some 32), (some (30, true)), .load 16 true, [.slot 31], (some (.loc 3))⟩,
 ⟨(some 33), (some (30, true)), .faddr 16, [.slot 3], none⟩,
 ⟨(some 34), (some (30, true)), .load 1 false, [.slot 33], (some (.loc 3))⟩,
 ⟨(some 35), (some (30, true)), .callP f_hedgerowlaw12_items, [.slot 34], none⟩,
 ⟨(some 36), (some (30, true)), .faddr 17, [.slot 3], none⟩,
 ⟨(some 37), (some (30, true)), .load 1 false, [.slot 36], (some (.loc 3))⟩,
 ⟨(some 38), (some (30, true)), .callP f_hedgerowref12_Bytes, [.slot 32, .slot 35, .slot 37], none⟩,
 ⟨(some 39), (some (30, true)), .b2s, [.slot 38], none⟩,
 ⟨(some 40), (some (30, true)), .id, [.slot 0], none⟩,
 ⟨(some 41), (some (30, true)), .b2s, [.slot 40], none⟩,
 ⟨(some 42), (some (30, true)), .bin .eql, [.slot 39, .slot 41], none⟩,
 ⟨(some 43), none, .pick, [.slot 30, .slot 42, .val (.bool false)], none⟩,
 ⟨(some 2), none, .id, [.slot 43], none⟩])
 (.ret))))))
def F_hedgerowlaw12_SnapParses : IFun := ⟨44, [.slot 2], b_hedgerowlaw12_SnapParses, 6, 0, nofn⟩
theorem c_hedgerowlaw12_SnapParses : cFun Tryz.prog [1048579, 2097169, 2097174, 2097176, 2097175] 0 f_hedgerowlaw12_SnapParses = some F_hedgerowlaw12_SnapParses := by kernel_rfl

def b_hedgerowlaw12_fixed : ICode :=
 .seq
 (.region [
 ⟨(some 0), none, .id, [.val (.bool false)], none⟩])
 (.seq
 (.region [
 ⟨(some 9), none, .build [(.int .i64 0), (.int .i64 0), (.int .i64 0), (.int .i64 0), (.int .i64 0), (.int .i64 0), (.int .i64 0), (.int .i64 0), (.int .i64 0), (.int .i64 0), (.int .i64 0), (.int .i64 0), (.int .i64 0), (.int .i64 0), (.int .i64 0), (.int .i64 0), .nilsl, .nilsl] [], [], none⟩,
 ⟨(some 10), none, .call f_snap_Bytes, [.slot 9], none⟩,
 ⟨(some 8), none, .id, [.slot 10], none⟩,
 ⟨(some 11), none, .extract 0, [.slot 8], none⟩,
 ⟨(some 12), none, .extract 1, [.slot 8], none⟩,
 ⟨(some 1), none, .id, [.slot 11], none⟩,
 ⟨(some 2), none, .id, [.slot 12], none⟩])
 (.seq
 (.region [
 ⟨(some 14), none, .id, [.slot 1], none⟩,
 ⟨(some 15), none, .call f_snap_Parse, [.slot 14], none⟩,
 ⟨(some 13), none, .id, [.slot 15], none⟩,
 ⟨(some 16), none, .extract 0, [.slot 13], none⟩,
 ⟨(some 17), none, .extract 1, [.slot 13], none⟩,
 ⟨(some 3), none, .allocL [(.int .i64 0), (.int .i64 0), (.int .i64 0), (.int .i64 0), (.int .i64 0), (.int .i64 0), (.int .i64 0), (.int .i64 0), (.int .i64 0), (.int .i64 0), (.int .i64 0), (.int .i64 0), (.int .i64 0), (.int .i64 0), (.int .i64 0), (.int .i64 0), .nilsl, .nilsl], [], none⟩,
 ⟨none, none, .store 18, [.slot 3, .slot 16], none⟩,
 ⟨(some 4), none, .id, [.slot 17], none⟩])
 (.seq
 (.region [
 ⟨(some 19), none, .buildSl 1 1 (.int .u8 0) [0], [.val (.int .u8 1)], none⟩,
 ⟨(some 20), none, .call f_snap_Parse, [.slot 19], none⟩,
 ⟨(some 18), none, .id, [.slot 20], none⟩,
 ⟨(some 21), none, .extract 0, [.slot 18], none⟩,
 ⟨(some 22), none, .extract 1, [.slot 18], none⟩,
 ⟨(some 5), none, .allocL [(.int .i64 0), (.int .i64 0), (.int .i64 0), (.int .i64 0), (.int .i64 0), (.int .i64 0), (.int .i64 0), (.int .i64 0), (.int .i64 0), (.int .i64 0), (.int .i64 0), (.int .i64 0), (.int .i64 0), (.int .i64 0), (.int .i64 0), (.int .i64 0), .nilsl, .nilsl], [], none⟩,
 ⟨none, none, .store 18, [.slot 5, .slot 21], none⟩,
 ⟨(some 6), none, .id, [.slot 22], none⟩])
 (.seq
 (.region [
 ⟨(some 23), none, .build [(.int .i64 0), (.int .i64 0), (.int .i64 0), (.int .i64 0), (.int .i64 0), (.int .i64 0), (.int .i64 0), (.int .i64 0), (.int .i64 0), (.int .i64 0), (.int .i64 0), (.int .i64 0), (.int .i64 0), (.int .i64 0), (.int .i64 0), (.int .i64 0), (.int .i64 0), (.int .i64 0), (.int .i64 0), (.int .i64 0), (.str ⟨#[]⟩), (.str ⟨#[]⟩), (.str ⟨#[]⟩), (.str ⟨#[]⟩), (.int .i64 0), (.int .i64 0), (.str ⟨#[]⟩)] [], [], none⟩,
 ⟨(some 24), none, .buildSl 27 1 (.agg [(.int .i64 0), (.int .i64 0), (.int .i64 0), (.int .i64 0), (.int .i64 0), (.int .i64 0), (.int .i64 0), (.int .i64 0), (.int .i64 0), (.int .i64 0), (.int .i64 0), (.int .i64 0), (.int .i64 0), (.int .i64 0), (.int .i64 0), (.int .i64 0), (.int .i64 0), (.int .i64 0), (.int .i64 0), (.int .i64 0), (.str ⟨#[]⟩), (.str ⟨#[]⟩), (.str ⟨#[]⟩), (.str ⟨#[]⟩), (.int .i64 0), (.int .i64 0), (.str ⟨#[]⟩)]) [0], [.slot 23], none⟩,
 ⟨(some 25), none, .build [(.int .i64 0), (.int .i64 0), (.int .i64 0), (.int .i64 0), (.int .i64 0), (.int .i64 0), (.int .i64 0), (.int .i64 0), (.int .i64 0), (.int .i64 0), (.int .i64 0), (.int .i64 0), (.int .i64 0), (.int .i64 0), (.int .i64 0), (.int .i64 0), .nilsl, .nilsl] [(17, 1)], [.slot 24], none⟩,
 ⟨(some 7), none, .allocL [(.int .i64 0), (.int .i64 0), (.int .i64 0), (.int .i64 0), (.int .i64 0), (.int .i64 0), (.int .i64 0), (.int .i64 0), (.int .i64 0), (.int .i64 0), (.int .i64 0), (.int .i64 0), (.int .i64 0), (.int .i64 0), (.int .i64 0), (.int .i64 0), .nilsl, .nilsl], [], none⟩,
 ⟨none, none, .store 18, [.slot 7, .slot 25], none⟩])
 (.seq
 (.region [
 ⟨(some 26), none, .id, [.slot 2], none⟩,
 ⟨(some 27), none, .bin .eql, [.slot 26, .val (.int .i64 0)], none⟩,
 ⟨(some 28), none, .id, [.slot 27], none⟩,
 ⟨(some 29), (some (28, true)), .id, [.slot 1], none⟩,
 ⟨(some 30), (some (28, true)), .lensl, [.slot 29], none⟩,
 ⟨(some 31), (some (28, true)), .bin .eql, [.slot 30, .val (.int .i64 18)], none⟩,
 ⟨(some 32), none, .pick, [.slot 28, .slot 31, .val (.bool false)], none⟩,
 ⟨(some 33), none, .id, [.slot 32], none⟩,
 ⟨(some 34), (some (33, true)), .id, [.slot 4], none⟩,
 ⟨(some 35), (some (33, true)), .bin .eql, [.slot 34, .val (.int .i64 0)], none⟩,
 ⟨(some 36), none, .pick, [.slot 33, .slot 35, .val (.bool false)], none⟩,
 ⟨(some 37), none, .id, [.slot 36], none⟩,
 ⟨(some 38), (some (37, true)), .load 18 true, [.slot 3], none⟩,
 ⟨(some 39), (some (37, true)), .build [(.int .i64 0), (.int .i64 0), (.int .i64 0), (.int .i64 0), (.int .i64 0), (.int .i64 0), (.int .i64 0), (.int .i64 0), (.int .i64 0), (.int .i64 0), (.int .i64 0), (.int .i64 0), (.int .i64 0), (.int .i64 0), (.int .i64 0), (.int .i64 0), .nilsl, .nilsl] [], [], none⟩,
 ⟨(some 40), (some (37, true)), .call f_snap_Same, [.slot 38, .slot 39], none⟩,
 ⟨(some 41), none, .pick, [.slot 37, .slot 40, .val (.bool false)], none⟩,
 ⟨(some 42), none, .id, [.slot 41], none⟩,
 ⟨(some 43), (some (42, true)), .id, [.slot 6], none⟩,
 ⟨(some 44), (some (42, true)), .bin .eql, [.slot 43, .val (.int .i64 2)], none⟩,
 ⟨(some 45), none, .pick, [.slot 42, .slot 44, .val (.bool false)], none⟩,
 ⟨(some 46), none, .id, [.slot 45], none⟩,
 ⟨(some 47), (some (46, true)), .load 18 true, [.slot 7], none⟩,
 ⟨(some 48), (some (46, true)), .call f_snap_Right, [.slot 47], none⟩,
 ⟨(some 49), (some (46, true)), .bin .eql, [.slot 48, .val (.int .i64 1)], none⟩,
 ⟨(some 50), none, .pick, [.slot 46, .slot 49, .val (.bool false)], none⟩,
 ⟨(some 51), none, .id, [.slot 50], none⟩,
 ⟨(some 52), (some (51, true)), .load 18 true, [.slot 7], none⟩,
 ⟨(some 53), (some (51, true)), .load 18 true, [.slot 3], none⟩,
 ⟨(some 54), (some (51, true)), .call f_snap_Same, [.slot 52, .slot 53], none⟩,
 ⟨(some 55), (some (51, true)), .un .not, [.slot 54], none⟩,
 ⟨(some 56), none, .pick, [.slot 51, .slot 55, .val (.bool false)], none⟩,
 ⟨(some 0), none, .id, [.slot 56], none⟩])
 (.ret))))))
def F_hedgerowlaw12_fixed : IFun := ⟨57, [.slot 0], b_hedgerowlaw12_fixed, 6, 2, nofn⟩
theorem c_hedgerowlaw12_fixed : cFun Tryz.prog [1048579, 1048581, 1048583, 2097171, 2097174] 2 f_hedgerowlaw12_fixed = some F_hedgerowlaw12_fixed := by kernel_rfl

def L0_hedgerowlaw12_few : ICode :=
 .seq
 (.region [
 ⟨(some 56), none, .bin .lss, [.slot 55, .slot 54], none⟩])
 (.seq
 (.cond (.slot 56)
 (.skip)
 (.exit 2))
 (.seq
 (.block 3
 (.seq
 (.region [
 ⟨(some 57), none, .ixaddr 5, [.slot 53, .slot 55], none⟩,
 ⟨(some 58), none, .load 5 true, [.slot 57], none⟩,
 ⟨(some 6), none, .allocL [(.int .i64 0), (.int .i64 0), (.int .i64 0), (.int .i64 0), (.str ⟨#[]⟩)], [], none⟩,
 ⟨none, none, .store 5, [.slot 6, .slot 58], none⟩])
 (.seq
 (.region [
 ⟨(some 59), none, .faddr 2, [.slot 6], none⟩,
 ⟨(some 60), none, .faddr 2, [.slot 59], none⟩,
 ⟨(some 61), none, .load 1 false, [.slot 60], none⟩,
 ⟨(some 62), none, .lenstr, [.slot 61], none⟩,
 ⟨(some 63), none, .bin .gtr, [.slot 62, .val (.int .i64 300)], none⟩])
 (.cond (.slot 63)
 (.seq
 (.region [
 ⟨(some 2), none, .id, [.val (.bool false)], none⟩])
 (.ret))
 (.skip)))))
 (.region [
 ⟨(some 64), none, .bin .add, [.slot 55, .val (.int .i64 1)], none⟩,
 ⟨(some 55), none, .id, [.slot 64], none⟩])))
def L1_hedgerowlaw12_few : ICode :=
 .seq
 (.region [
 ⟨(some 23), none, .bin .lss, [.slot 22, .slot 21], none⟩])
 (.seq
 (.cond (.slot 23)
 (.skip)
 (.exit 0))
 (.seq
 (.block 1
 (.seq
 (.region [
 ⟨(some 24), none, .ixaddr 6, [.slot 20, .slot 22], none⟩,
 ⟨(some 25), none, .load 6 true, [.slot 24], none⟩,
 ⟨(some 4), none, .allocL [(.int .i64 0), (.str ⟨#[]⟩), (.str ⟨#[]⟩), (.str ⟨#[]⟩), (.str ⟨#[]⟩), .nilsl], [], none⟩,
 ⟨none, none, .store 6, [.slot 4, .slot 25], none⟩])
 (.seq
 (.seq
 (.region [
 ⟨(some 26), none, .faddr 5, [.slot 4], none⟩,
 ⟨(some 27), none, .load 1 false, [.slot 26], none⟩,
 ⟨(some 28), none, .lensl, [.slot 27], none⟩,
 ⟨(some 29), none, .bin .gtr, [.slot 28, .val (.int .i64 20)], none⟩,
 ⟨(some 30), none, .id, [.slot 29], none⟩,
 ⟨(some 31), (some (30, false)), .faddr 0, [.slot 4], none⟩,
 ⟨(some 32), (some (30, false)), .faddr 1, [.slot 31], none⟩,
 ⟨(some 33), (some (30, false)), .load 1 false, [.slot 32], none⟩,
 ⟨(some 34), (some (30, false)), .lenstr, [.slot 33], none⟩,
 ⟨(some 35), (some (30, false)), .faddr 0, [.slot 4], none⟩,
 ⟨(some 36), (some (30, false)), .faddr 2, [.slot 35], none⟩,
 ⟨(some 37), (some (30, false)), .load 1 false, [.slot 36], none⟩,
 ⟨(some 38), (some (30, false)), .lenstr, [.slot 37], none⟩,
 ⟨(some 39), (some (30, false)), .bin .add, [.slot 34, .slot 38], none⟩,
 ⟨(some 40), (some (30, false)), .faddr 0, [.slot 4], none⟩,
 ⟨(some 41), (some (30, false)), .faddr 3, [.slot 40], none⟩,
 ⟨(some 42), (some (30, false)), .load 1 false, [.slot 41], none⟩,
 ⟨(some 43), (some (30, false)), .lenstr, [.slot 42], none⟩,
 ⟨(some 44), (some (30, false)), .bin .add, [.slot 39, .slot 43], none⟩,
 ⟨(some 45), (some (30, false)), .faddr 0, [.slot 4], none⟩,
 ⟨(some 46), (some (30, false)), .faddr 4, [.slot 45], none⟩,
 ⟨(some 47), (some (30, false)), .load 1 false, [.slot 46], none⟩,
 ⟨(some 48), (some (30, false)), .lenstr, [.slot 47], none⟩,
 ⟨(some 49), (some (30, false)), .bin .add, [.slot 44, .slot 48], none⟩,
 ⟨(some 50), (some (30, false)), .bin .gtr, [.slot 49, .val (.int .i64 300)], none⟩,
 ⟨(some 51), none, .pick, [.slot 30, .val (.bool true), .slot 50], none⟩])
 (.cond (.slot 51)
 (.seq
 (.region [
 ⟨(some 2), none, .id, [.val (.bool false)], none⟩])
 (.ret))
 (.skip)))
 (.seq
 (.region [
 ⟨(some 52), none, .faddr 5, [.slot 4], none⟩,
 ⟨(some 53), none, .load 1 false, [.slot 52], none⟩,
 ⟨(some 54), none, .lensl, [.slot 53], none⟩,
 ⟨(some 55), none, .id, [.val (.int .i64 0)], none⟩])
 (.block 2
 (.loop L0_hedgerowlaw12_few))))))
 (.region [
 ⟨(some 65), none, .bin .add, [.slot 22, .val (.int .i64 1)], none⟩,
 ⟨(some 22), none, .id, [.slot 65], none⟩])))
def L2_hedgerowlaw12_few : ICode :=
 .seq
 (.region [
 ⟨(some 70), none, .bin .lss, [.slot 69, .slot 68], none⟩])
 (.seq
 (.cond (.slot 70)
 (.skip)
 (.exit 4))
 (.seq
 (.block 5
 (.seq
 (.region [
 ⟨(some 71), none, .ixaddr 27, [.slot 67, .slot 69], none⟩,
 ⟨(some 72), none, .load 27 true, [.slot 71], none⟩,
 ⟨(some 8), none, .allocL [(.int .i64 0), (.int .i64 0), (.int .i64 0), (.int .i64 0), (.int .i64 0), (.int .i64 0), (.int .i64 0), (.int .i64 0), (.int .i64 0), (.int .i64 0), (.int .i64 0), (.int .i64 0), (.int .i64 0), (.int .i64 0), (.int .i64 0), (.int .i64 0), (.int .i64 0), (.int .i64 0), (.int .i64 0), (.int .i64 0), (.str ⟨#[]⟩), (.str ⟨#[]⟩), (.str ⟨#[]⟩), (.str ⟨#[]⟩), (.int .i64 0), (.int .i64 0), (.str ⟨#[]⟩)], [], none⟩,
 ⟨none, none, .store 27, [.slot 8, .slot 72], none⟩])
 (.seq
 (.region [
 ⟨(some 73), none, .load 27 true, [.slot 8], none⟩,
 ⟨(some 74), none, .call f_hedgerowref06_Short, [.slot 73], none⟩,
 ⟨(some 75), none, .un .not, [.slot 74], none⟩])
 (.cond (.slot 75)
 (.seq
 (.region [
 ⟨(some 2), none, .id, [.val (.bool false)], none⟩])
 (.ret))
 (.skip)))))
 (.region [
 ⟨(some 76), none, .bin .add, [.slot 69, .val (.int .i64 1)], none⟩,
 ⟨(some 69), none, .id, [.slot 76], none⟩])))
def b_hedgerowlaw12_few : ICode :=
 .seq
 (.region [
 ⟨(some 1), none, .boxL, [.slot 0], none⟩,
 ⟨(some 2), none, .id, [.val (.bool false)], none⟩])
 (.seq
 (.seq
 (.region [
 ⟨(some 9), none, .faddr 16, [.slot 1], none⟩,
 ⟨(some 10), none, .load 1 false, [.slot 9], none⟩,
 ⟨(some 11), none, .lensl, [.slot 10], none⟩,
 ⟨(some 12), none, .bin .gtr, [.slot 11, .val (.int .i64 30)], none⟩,
 ⟨(some 13), none, .id, [.slot 12], none⟩,
 ⟨(some 14), (some (13, false)), .faddr 17, [.slot 1], none⟩,
 ⟨(some 15), (some (13, false)), .load 1 false, [.slot 14], none⟩,
 ⟨(some 16), (some (13, false)), .lensl, [.slot 15], none⟩,
 ⟨(some 17), (some (13, false)), .bin .gtr, [.slot 16, .val (.int .i64 30)], none⟩,
 ⟨(some 18), none, .pick, [.slot 13, .val (.bool true), .slot 17], none⟩])
 (.cond (.slot 18)
 (.seq
 (.region [
 ⟨(some 2), none, .id, [.val (.bool false)], none⟩])
 (.ret))
 (.skip)))
 (.seq
 (.seq
 (.region [
 ⟨(some 19), none, .faddr 16, [.slot 1], none⟩,
 ⟨(some 20), none, .load 1 false, [.slot 19], none⟩,
 ⟨(some 21), none, .lensl, [.slot 20], none⟩,
 ⟨(some 22), none, .id, [.val (.int .i64 0)], none⟩])
 (.block 0
 (.loop L1_hedgerowlaw12_few)))
 (.seq
 (.seq
 (.region [
 ⟨(some 66), none, .faddr 17, [.slot 1], none⟩,
 ⟨(some 67), none, .load 1 false, [.slot 66], none⟩,
 ⟨(some 68), none, .lensl, [.slot 67], none⟩,
 ⟨(some 69), none, .id, [.val (.int .i64 0)], none⟩])
 (.block 4
 (.loop L2_hedgerowlaw12_few)))
 (.seq
 (.region [
 ⟨(some 2), none, .id, [.val (.bool true)], none⟩])
 (.ret)))))
def F_hedgerowlaw12_few : IFun := ⟨77, [.slot 2], b_hedgerowlaw12_few, 6, 0, nofn⟩
theorem c_hedgerowlaw12_few : cFun Tryz.prog [1048577, 1048580, 1048582, 1048584] 0 f_hedgerowlaw12_few = some F_hedgerowlaw12_few := by kernel_rfl

def L0_snap_Bytes : ICode :=
 .seq
 (.region [
 ⟨(some 20), none, .bin .lss, [.slot 19, .val (.int .i64 16)], none⟩])
 (.seq
 (.cond (.slot 20)
 (.skip)
 (.exit 0))
 (.seq
 (.block 1
 (.seq
 (.region [
 ⟨(some 21), none, .ixarr 16 1 false, [.slot 18, .slot 19], none⟩,
 ⟨(some 7), none, .id, [.slot 21], none⟩])
 (.region [
 ⟨(some 22), none, .id, [.slot 5], none⟩,
 ⟨(some 23), none, .id, [.slot 7], none⟩,
 ⟨(some 24), none, .call f_num_Put, [.slot 22, .slot 23], none⟩,
 ⟨(some 5), none, .id, [.slot 24], none⟩])))
 (.region [
 ⟨(some 25), none, .bin .add, [.slot 19, .val (.int .i64 1)], none⟩,
 ⟨(some 19), none, .id, [.slot 25], none⟩])))
def L1_snap_Bytes : ICode :=
 .seq
 (.region [
 ⟨(some 35), none, .bin .lss, [.slot 34, .slot 33], none⟩])
 (.seq
 (.cond (.slot 35)
 (.skip)
 (.exit 2))
 (.seq
 (.block 3
 (.seq
 (.region [
 ⟨(some 36), none, .ixaddr 6, [.slot 32, .slot 34], none⟩,
 ⟨(some 37), none, .load 6 true, [.slot 36], none⟩,
 ⟨(some 9), none, .allocL [(.int .i64 0), (.str ⟨#[]⟩), (.str ⟨#[]⟩), (.str ⟨#[]⟩), (.str ⟨#[]⟩), .nilsl], [], none⟩,
 ⟨none, none, .store 6, [.slot 9, .slot 37], none⟩])
 (.region [
 ⟨(some 38), none, .id, [.slot 5], none⟩,
 ⟨(some 39), none, .load 6 true, [.slot 9], none⟩,
 ⟨(some 40), none, .call f_snap_putItem, [.slot 38, .slot 39], none⟩,
 ⟨(some 5), none, .id, [.slot 40], none⟩])))
 (.region [
 ⟨(some 41), none, .bin .add, [.slot 34, .val (.int .i64 1)], none⟩,
 ⟨(some 34), none, .id, [.slot 41], none⟩])))
def L2_snap_Bytes : ICode :=
 .seq
 (.region [
 ⟨(some 51), none, .bin .lss, [.slot 50, .slot 49], none⟩])
 (.seq
 (.cond (.slot 51)
 (.skip)
 (.exit 4))
 (.seq
 (.block 5
 (.seq
 (.region [
 ⟨(some 52), none, .ixaddr 27, [.slot 48, .slot 50], none⟩,
 ⟨(some 53), none, .load 27 true, [.slot 52], none⟩,
 ⟨(some 11), none, .allocL [(.int .i64 0), (.int .i64 0), (.int .i64 0), (.int .i64 0), (.int .i64 0), (.int .i64 0), (.int .i64 0), (.int .i64 0), (.int .i64 0), (.int .i64 0), (.int .i64 0), (.int .i64 0), (.int .i64 0), (.int .i64 0), (.int .i64 0), (.int .i64 0), (.int .i64 0), (.int .i64 0), (.int .i64 0), (.int .i64 0), (.str ⟨#[]⟩), (.str ⟨#[]⟩), (.str ⟨#[]⟩), (.str ⟨#[]⟩), (.int .i64 0), (.int .i64 0), (.str ⟨#[]⟩)], [], none⟩,
 ⟨none, none, .store 27, [.slot 11, .slot 53], none⟩])
 (.region [
 ⟨(some 54), none, .id, [.slot 5], none⟩,
 ⟨(some 55), none, .load 27 true, [.slot 11], none⟩,
 ⟨(some 56), none, .call f_event_Put, [.slot 54, .slot 55], none⟩,
 ⟨(some 5), none, .id, [.slot 56], none⟩])))
 (.region [
 ⟨(some 57), none, .bin .add, [.slot 50, .val (.int .i64 1)], none⟩,
 ⟨(some 50), none, .id, [.slot 57], none⟩])))
def b_snap_Bytes : ICode :=
 .seq
 (.region [
 ⟨(some 1), none, .boxL, [.slot 0], none⟩,
 ⟨(some 2), none, .id, [.val .nilsl], none⟩,
 ⟨(some 3), none, .id, [.val (.int .i64 0)], none⟩])
 (.seq
 (.seq
 (.region [
 ⟨(some 12), none, .load 18 true, [.slot 1], none⟩,
 ⟨(some 13), none, .call f_snap_Right, [.slot 12], none⟩,
 ⟨(some 4), none, .id, [.slot 13], none⟩])
 (.seq
 (.region [
 ⟨(some 14), none, .id, [.slot 4], none⟩,
 ⟨(some 15), none, .bin .neq, [.slot 14, .val (.int .i64 0)], none⟩])
 (.cond (.slot 15)
 (.seq
 (.region [
 ⟨(some 16), none, .id, [.slot 4], none⟩,
 ⟨(some 2), none, .id, [.val .nilsl], none⟩,
 ⟨(some 3), none, .id, [.slot 16], none⟩])
 (.ret))
 (.skip))))
 (.seq
 (.region [
 ⟨(some 5), none, .id, [.val .nilsl], none⟩])
 (.seq
 (.seq
 (.region [
 ⟨(some 17), none, .faddr 0, [.slot 1], none⟩,
 ⟨(some 18), none, .load 16 true, [.slot 17], none⟩,
 ⟨(some 19), none, .id, [.val (.int .i64 0)], none⟩])
 (.block 0
 (.loop L0_snap_Bytes)))
 (.seq
 (.region [
 ⟨(some 26), none, .id, [.slot 5], none⟩,
 ⟨(some 27), none, .faddr 16, [.slot 1], none⟩,
 ⟨(some 28), none, .load 1 false, [.slot 27], none⟩,
 ⟨(some 29), none, .lensl, [.slot 28], none⟩,
 ⟨(some 30), none, .call f_num_Put, [.slot 26, .slot 29], none⟩,
 ⟨(some 5), none, .id, [.slot 30], none⟩])
 (.seq
 (.seq
 (.region [
 ⟨(some 31), none, .faddr 16, [.slot 1], none⟩,
 ⟨(some 32), none, .load 1 false, [.slot 31], none⟩,
 ⟨(some 33), none, .lensl, [.slot 32], none⟩,
 ⟨(some 34), none, .id, [.val (.int .i64 0)], none⟩])
 (.block 2
 (.loop L1_snap_Bytes)))
 (.seq
 (.region [
 ⟨(some 42), none, .id, [.slot 5], none⟩,
 ⟨(some 43), none, .faddr 17, [.slot 1], none⟩,
 ⟨(some 44), none, .load 1 false, [.slot 43], none⟩,
 ⟨(some 45), none, .lensl, [.slot 44], none⟩,
 ⟨(some 46), none, .call f_num_Put, [.slot 42, .slot 45], none⟩,
 ⟨(some 5), none, .id, [.slot 46], none⟩])
 (.seq
 (.seq
 (.region [
 ⟨(some 47), none, .faddr 17, [.slot 1], none⟩,
 ⟨(some 48), none, .load 1 false, [.slot 47], none⟩,
 ⟨(some 49), none, .lensl, [.slot 48], none⟩,
 ⟨(some 50), none, .id, [.val (.int .i64 0)], none⟩])
 (.block 4
 (.loop L2_snap_Bytes)))
 (.seq
 (.region [
 ⟨(some 58), none, .id, [.slot 5], none⟩,
 ⟨(some 2), none, .id, [.slot 58], none⟩,
 ⟨(some 3), none, .id, [.val (.int .i64 0)], none⟩])
 (.ret)))))))))
def F_snap_Bytes : IFun := ⟨59, [.slot 2, .slot 3], b_snap_Bytes, 6, 1, nofn⟩
theorem c_snap_Bytes : cFun Tryz.prog [1048577, 1048585, 1048587] 1 f_snap_Bytes = some F_snap_Bytes := by kernel_rfl

def L0_hedgerowlaw12_right : ICode :=
 .seq
 (.region [
 ⟨(some 15), none, .bin .lss, [.slot 14, .val (.int .i64 16)], none⟩])
 (.seq
 (.cond (.slot 15)
 (.skip)
 (.exit 0))
 (.seq
 (.block 1
 (.seq
 (.region [
 ⟨(some 16), none, .ixarr 16 1 false, [.slot 13, .slot 14], none⟩,
 ⟨(some 4), none, .id, [.slot 16], none⟩])
 (.seq
 (.region [
 ⟨(some 17), none, .id, [.slot 4], none⟩,
 ⟨(some 18), none, .bin .lss, [.slot 17, .val (.int .i64 0)], none⟩,
 ⟨(some 19), none, .id, [.slot 18], none⟩,
 ⟨(some 20), (some (19, false)), .id, [.slot 4], none⟩,
 ⟨(some 21), (some (19, false)), .bin .gtr, [.slot 20, .val (.int .i64 1048576)], none⟩,
 ⟨(some 22), none, .pick, [.slot 19, .val (.bool true), .slot 21], none⟩])
 (.cond (.slot 22)
 (.seq
 (.region [
 ⟨(some 2), none, .id, [.val (.bool false)], none⟩])
 (.ret))
 (.skip)))))
 (.region [
 ⟨(some 23), none, .bin .add, [.slot 14, .val (.int .i64 1)], none⟩,
 ⟨(some 14), none, .id, [.slot 23], none⟩])))
def L1_hedgerowlaw12_right : ICode :=
 .seq
 (.region [
 ⟨(some 57), none, .bin .lss, [.slot 56, .slot 55], none⟩])
 (.seq
 (.cond (.slot 57)
 (.skip)
 (.exit 4))
 (.seq
 (.block 5
 (.seq
 (.region [
 ⟨(some 58), none, .id, [.slot 56], none⟩,
 ⟨(some 59), none, .ixaddr 5, [.slot 54, .slot 56], none⟩,
 ⟨(some 60), none, .load 5 true, [.slot 59], none⟩,
 ⟨(some 8), none, .allocL [(.int .i64 0), (.int .i64 0), (.int .i64 0), (.int .i64 0), (.str ⟨#[]⟩)], [], none⟩,
 ⟨(some 7), none, .id, [.slot 58], none⟩,
 ⟨none, none, .store 5, [.slot 8, .slot 60], none⟩])
 (.seq
 (.region [
 ⟨(some 9), none, .id, [.val (.int .i64 1)], none⟩])
 (.seq
 (.seq
 (.region [
 ⟨(some 61), none, .faddr 0, [.slot 6], none⟩,
 ⟨(some 62), none, .faddr 0, [.slot 61], none⟩,
 ⟨(some 63), none, .load 1 false, [.slot 62], none⟩,
 ⟨(some 64), none, .bin .geq, [.slot 63, .val (.int .i64 4)], none⟩])
 (.cond (.slot 64)
 (.region [
 ⟨(some 9), none, .id, [.val (.int .i64 3)], none⟩])
 (.skip)))
 (.seq
 (.region [
 ⟨(some 65), none, .id, [.slot 9], none⟩,
 ⟨(some 66), none, .faddr 0, [.slot 6], none⟩,
 ⟨(some 67), none, .load 5 true, [.slot 66], (some (.loc 6))⟩,
 ⟨(some 68), none, .faddr 2, [.slot 8], none⟩,
 ⟨(some 69), none, .load 3 true, [.slot 68], (some (.loc 8))⟩,
 ⟨(some 70), none, .build [(.int .i64 0), (.int .i64 0), (.str ⟨#[]⟩), (.str ⟨#[]⟩), (.str ⟨#[]⟩), (.str ⟨#[]⟩), (.int .i64 0), (.int .i64 0), (.str ⟨#[]⟩)] [(0, 1), (1, 5), (6, 3)], [.slot 65, .slot 67, .slot 69], none⟩,
 ⟨(some 71), none, .call f_hedgerowref06_Change, [.slot 70], none⟩,
 ⟨(some 72), none, .un .not, [.slot 71], none⟩,
 ⟨(some 73), none, .id, [.slot 72], none⟩,
 ⟨(some 74), (some (73, false)), .faddr 0, [.slot 8], none⟩,
 ⟨(some 75), (some (73, false)), .faddr 0, [.slot 74], none⟩,
 ⟨(some 76), (some (73, false)), .load 1 false, [.slot 75], (some (.loc 8))⟩,
 ⟨(some 77), (some (73, false)), .bin .lss, [.slot 76, .val (.int .i64 0)], none⟩,
 ⟨(some 78), none, .pick, [.slot 73, .val (.bool true), .slot 77], none⟩,
 ⟨(some 79), none, .id, [.slot 78], none⟩,
 ⟨(some 80), (some (79, false)), .faddr 0, [.slot 8], none⟩,
 ⟨(some 81), (some (79, false)), .faddr 0, [.slot 80], none⟩,
 ⟨(some 82), (some (79, false)), .load 1 false, [.slot 81], (some (.loc 8))⟩,
 ⟨(some 83), (some (79, false)), .bin .gtr, [.slot 82, .val (.int .i64 15)], none⟩,
 ⟨(some 84), none, .pick, [.slot 79, .val (.bool true), .slot 83], none⟩,
 ⟨(some 85), none, .id, [.slot 84], none⟩,
 ⟨(some 86), (some (85, false)), .faddr 0, [.slot 8], none⟩,
 ⟨(some 87), (some (85, false)), .faddr 1, [.slot 86], none⟩,
 ⟨(some 88), (some (85, false)), .load 1 false, [.slot 87], (some (.loc 8))⟩,
 ⟨(some 89), (some (85, false)), .bin .lss, [.slot 88, .val (.int .i64 1)], none⟩,
 ⟨(some 90), none, .pick, [.slot 85, .val (.bool true), .slot 89], none⟩,
 ⟨(some 91), none, .id, [.slot 90], none⟩,
 ⟨(some 92), (some (91, false)), .faddr 0, [.slot 8], none⟩,
 ⟨(some 93), (some (91, false)), .faddr 1, [.slot 92], none⟩,
 ⟨(some 94), (some (91, false)), .load 1 false, [.slot 93], (some (.loc 8))⟩,
 ⟨(some 95), (some (91, false)), .faddr 0, [.slot 8], none⟩,
 ⟨(some 96), (some (91, false)), .faddr 0, [.slot 95], none⟩,
 ⟨(some 97), (some (91, false)), .load 1 false, [.slot 96], (some (.loc 8))⟩,
 ⟨(some 98), (some (91, false)), .faddr 0, [.slot 1], none⟩,
 ⟨(some 99), (some (91, false)), .ixaddrA 16 1, [.slot 98, .slot 97], none⟩,
 ⟨(some 100), (some (91, false)), .load 1 false, [.slot 99], (some (.loc 1))⟩,
 ⟨(some 101), (some (91, false)), .bin .gtr, [.slot 94, .slot 100], none⟩,
 ⟨(some 102), none, .pick, [.slot 91, .val (.bool true), .slot 101], none⟩,
 ⟨(some 103), none, .id, [.slot 102], none⟩,
 ⟨(some 104), (some (103, false)), .id, [.slot 7], none⟩,
 ⟨(some 105), (some (103, false)), .bin .gtr, [.slot 104, .val (.int .i64 0)], none⟩,
 ⟨(some 106), (some (103, false)), .id, [.slot 105], none⟩,
 ⟨(some 107), (some (106, true)), .faddr 5, [.slot 6], none⟩,
 ⟨(some 108), (some (106, true)), .load 1 false, [.slot 107], (some (.loc 6))⟩,
 ⟨(some 109), (some (106, true)), .id, [.slot 7], none⟩,
 ⟨(some 110), (some (106, true)), .bin .sub, [.slot 109, .val (.int .i64 1)], none⟩,
 ⟨(some 111), (some (106, true)), .ixaddr 5, [.slot 108, .slot 110], none⟩,
 ⟨(some 112), (some (106, true)), .faddr 0, [.slot 111], none⟩,
 ⟨(some 113), (some (106, true)), .load 2 true, [.slot 112], (some (.el))⟩,
 ⟨(some 114), (some (106, true)), .faddr 0, [.slot 8], none⟩,
 ⟨(some 115), (some (106, true)), .load 2 true, [.slot 114], (some (.loc 8))⟩,
 ⟨(some 116), (some (106, true)), .call f_hedgerowref07_First, [.slot 113, .slot 115], none⟩,
 ⟨(some 117), (some (106, true)), .un .not, [.slot 116], none⟩,
 ⟨(some 118), (some (103, false)), .pick, [.slot 106, .slot 117, .val (.bool false)], none⟩,
 ⟨(some 119), none, .pick, [.slot 103, .val (.bool true), .slot 118], none⟩])
 (.cond (.slot 119)
 (.seq
 (.region [
 ⟨(some 2), none, .id, [.val (.bool false)], none⟩])
 (.ret))
 (.skip)))))))
 (.region [
 ⟨(some 120), none, .bin .add, [.slot 56, .val (.int .i64 1)], none⟩,
 ⟨(some 56), none, .id, [.slot 120], none⟩])))
def L2_hedgerowlaw12_right : ICode :=
 .seq
 (.region [
 ⟨(some 28), none, .bin .lss, [.slot 27, .slot 26], none⟩])
 (.seq
 (.cond (.slot 28)
 (.skip)
 (.exit 2))
 (.seq
 (.block 3
 (.seq
 (.region [
 ⟨(some 29), none, .id, [.slot 27], none⟩,
 ⟨(some 30), none, .ixaddr 6, [.slot 25, .slot 27], none⟩,
 ⟨(some 31), none, .load 6 true, [.slot 30], none⟩,
 ⟨(some 6), none, .allocL [(.int .i64 0), (.str ⟨#[]⟩), (.str ⟨#[]⟩), (.str ⟨#[]⟩), (.str ⟨#[]⟩), .nilsl], [], none⟩,
 ⟨(some 5), none, .id, [.slot 29], none⟩,
 ⟨none, none, .store 6, [.slot 6, .slot 31], none⟩])
 (.seq
 (.seq
 (.region [
 ⟨(some 32), none, .faddr 5, [.slot 6], none⟩,
 ⟨(some 33), none, .load 1 false, [.slot 32], (some (.loc 6))⟩,
 ⟨(some 34), none, .lensl, [.slot 33], none⟩,
 ⟨(some 35), none, .bin .eql, [.slot 34, .val (.int .i64 0)], none⟩,
 ⟨(some 36), none, .id, [.slot 35], none⟩,
 ⟨(some 37), (some (36, false)), .id, [.slot 5], none⟩,
 ⟨(some 38), (some (36, false)), .bin .gtr, [.slot 37, .val (.int .i64 0)], none⟩,
 ⟨(some 39), (some (36, false)), .id, [.slot 38], none⟩,
 ⟨(some 40), (some (39, true)), .faddr 16, [.slot 1], none⟩,
 ⟨(some 41), (some (39, true)), .load 1 false, [.slot 40], (some (.loc 1))⟩,
 ⟨(some 42), (some (39, true)), .id, [.slot 5], none⟩,
 ⟨(some 43), (some (39, true)), .bin .sub, [.slot 42, .val (.int .i64 1)], none⟩,
 ⟨(some 44), (some (39, true)), .ixaddr 6, [.slot 41, .slot 43], none⟩,
 ⟨(some 45), (some (39, true)), .faddr 0, [.slot 44], none⟩,
 ⟨(some 46), (some (39, true)), .load 5 true, [.slot 45], (some (.el))⟩,
 ⟨(some 47), (some (39, true)), .faddr 0, [.slot 6], none⟩,
 ⟨(some 48), (some (39, true)), .load 5 true, [.slot 47], (some (.loc 6))⟩,
 ⟨(some 49), (some (39, true)), .call f_hedgerowref07_Less, [.slot 46, .slot 48], none⟩,
 ⟨(some 50), (some (39, true)), .un .not, [.slot 49], none⟩,
 ⟨(some 51), (some (36, false)), .pick, [.slot 39, .slot 50, .val (.bool false)], none⟩,
 ⟨(some 52), none, .pick, [.slot 36, .val (.bool true), .slot 51], none⟩])
 (.cond (.slot 52)
 (.seq
 (.region [
 ⟨(some 2), none, .id, [.val (.bool false)], none⟩])
 (.ret))
 (.skip)))
 (.seq
 (.region [
 ⟨(some 53), none, .faddr 5, [.slot 6], none⟩,
 ⟨(some 54), none, .load 1 false, [.slot 53], none⟩,
 ⟨(some 55), none, .lensl, [.slot 54], none⟩,
 ⟨(some 56), none, .id, [.val (.int .i64 0)], none⟩])
 (.block 4
 (.loop L1_hedgerowlaw12_right))))))
 (.region [
 ⟨(some 121), none, .bin .add, [.slot 27, .val (.int .i64 1)], none⟩,
 ⟨(some 27), none, .id, [.slot 121], none⟩])))
def L3_hedgerowlaw12_right : ICode :=
 .seq
 (.region [
 ⟨(some 126), none, .bin .lss, [.slot 125, .slot 124], none⟩])
 (.seq
 (.cond (.slot 126)
 (.skip)
 (.exit 6))
 (.seq
 (.block 7
 (.seq
 (.region [
 ⟨(some 127), none, .ixaddr 27, [.slot 123, .slot 125], none⟩,
 ⟨(some 128), none, .load 27 true, [.slot 127], none⟩,
 ⟨(some 11), none, .allocL [(.int .i64 0), (.int .i64 0), (.int .i64 0), (.int .i64 0), (.int .i64 0), (.int .i64 0), (.int .i64 0), (.int .i64 0), (.int .i64 0), (.int .i64 0), (.int .i64 0), (.int .i64 0), (.int .i64 0), (.int .i64 0), (.int .i64 0), (.int .i64 0), (.int .i64 0), (.int .i64 0), (.int .i64 0), (.int .i64 0), (.str ⟨#[]⟩), (.str ⟨#[]⟩), (.str ⟨#[]⟩), (.str ⟨#[]⟩), (.int .i64 0), (.int .i64 0), (.str ⟨#[]⟩)], [], none⟩,
 ⟨none, none, .store 27, [.slot 11, .slot 128], none⟩])
 (.seq
 (.region [
 ⟨(some 129), none, .load 27 true, [.slot 11], (some (.loc 11))⟩,
 ⟨(some 130), none, .call f_hedgerowref06_Right, [.slot 129], none⟩,
 ⟨(some 131), none, .un .not, [.slot 130], none⟩,
 ⟨(some 132), none, .id, [.slot 131], none⟩,
 ⟨(some 133), (some (132, false)), .faddr 0, [.slot 11], none⟩,
 ⟨(some 134), (some (132, false)), .faddr 0, [.slot 133], none⟩,
 ⟨(some 135), (some (132, false)), .load 1 false, [.slot 134], (some (.loc 11))⟩,
 ⟨(some 136), (some (132, false)), .faddr 0, [.slot 1], none⟩,
 ⟨(some 137), (some (132, false)), .ixaddrA 16 1, [.slot 136, .slot 135], none⟩,
 ⟨(some 138), (some (132, false)), .load 1 false, [.slot 137], (some (.loc 1))⟩,
 ⟨(some 139), (some (132, false)), .faddr 0, [.slot 11], none⟩,
 ⟨(some 140), (some (132, false)), .faddr 1, [.slot 139], none⟩,
 ⟨(some 141), (some (132, false)), .load 1 false, [.slot 140], (some (.loc 11))⟩,
 ⟨(some 142), (some (132, false)), .bin .lss, [.slot 138, .slot 141], none⟩,
 ⟨(some 143), none, .pick, [.slot 132, .val (.bool true), .slot 142], none⟩])
 (.cond (.slot 143)
 (.seq
 (.region [
 ⟨(some 2), none, .id, [.val (.bool false)], none⟩])
 (.ret))
 (.skip)))))
 (.region [
 ⟨(some 144), none, .bin .add, [.slot 125, .val (.int .i64 1)], none⟩,
 ⟨(some 125), none, .id, [.slot 144], none⟩])))
def b_hedgerowlaw12_right : ICode :=
 .seq
 (.region [
 ⟨(some 1), none, .boxL, [.slot 0], none⟩,
 ⟨(some 2), none, .id, [.val (.bool false)], none⟩])
 (.seq
 (.seq
 (.region [
 ⟨(some 12), none, .faddr 0, [.slot 1], none⟩,
 ⟨(some 13), none, .load 16 true, [.slot 12], none⟩,
 ⟨(some 14), none, .id, [.val (.int .i64 0)], none⟩])
 (.block 0
 (.loop L0_hedgerowlaw12_right)))
 (.seq
 (.seq
 (.region [
 ⟨(some 24), none, .faddr 16, [.slot 1], none⟩,
 ⟨(some 25), none, .load 1 false, [.slot 24], none⟩,
 ⟨(some 26), none, .lensl, [.slot 25], none⟩,
 ⟨(some 27), none, .id, [.val (.int .i64 0)], none⟩])
 (.block 2
 (.loop L2_hedgerowlaw12_right)))
 (.seq
 (.seq
 (.region [
 ⟨(some 122), none, .faddr 17, [.slot 1], none⟩,
 ⟨(some 123), none, .load 1 false, [.slot 122], none⟩,
 ⟨(some 124), none, .lensl, [.slot 123], none⟩,
 ⟨(some 125), none, .id, [.val (.int .i64 0)], none⟩])
 (.block 6
 (.loop L3_hedgerowlaw12_right)))
 (.seq
 (.region [
 ⟨(some 2), none, .id, [.val (.bool true)], none⟩])
 (.ret)))))
def F_hedgerowlaw12_right : IFun := ⟨145, [.slot 2], b_hedgerowlaw12_right, 6, 0, nofn⟩
theorem c_hedgerowlaw12_right : cFun Tryz.prog [1048577, 1048582, 1048584, 1048587] 0 f_hedgerowlaw12_right = some F_hedgerowlaw12_right := by kernel_rfl

def L0_snap_Right : ICode :=
 .seq
 (.region [
 ⟨(some 27), none, .bin .lss, [.slot 26, .slot 25], none⟩])
 (.seq
 (.cond (.slot 27)
 (.skip)
 (.exit 0))
 (.seq
 (.block 1
 (.seq
 (.region [
 ⟨(some 28), none, .id, [.slot 26], none⟩,
 ⟨(some 29), none, .ixaddr 6, [.slot 24, .slot 26], none⟩,
 ⟨(some 30), none, .load 6 true, [.slot 29], none⟩,
 ⟨(some 4), none, .allocL [(.int .i64 0), (.str ⟨#[]⟩), (.str ⟨#[]⟩), (.str ⟨#[]⟩), (.str ⟨#[]⟩), .nilsl], [], none⟩,
 ⟨(some 3), none, .id, [.slot 28], none⟩,
 ⟨none, none, .store 6, [.slot 4, .slot 30], none⟩])
 (.seq
 (.region [
 ⟨(some 31), none, .faddr 0, [.slot 1], none⟩,
 ⟨(some 32), none, .load 16 true, [.slot 31], (some (.loc 1))⟩,
 ⟨(some 33), none, .load 6 true, [.slot 4], (some (.loc 4))⟩,
 ⟨(some 34), none, .callP f_snap_item, [.slot 32, .slot 33], none⟩,
 ⟨(some 35), none, .un .not, [.slot 34], none⟩,
 ⟨(some 36), none, .id, [.slot 35], none⟩,
 ⟨(some 37), (some (36, false)), .id, [.slot 3], none⟩,
 ⟨(some 38), (some (36, false)), .bin .gtr, [.slot 37, .val (.int .i64 0)], none⟩,
 ⟨(some 39), (some (36, false)), .id, [.slot 38], none⟩,
 ⟨(some 40), (some (39, true)), .faddr 16, [.slot 1], none⟩,
 ⟨(some 41), (some (39, true)), .load 1 false, [.slot 40], (some (.loc 1))⟩,
 ⟨(some 42), (some (39, true)), .id, [.slot 3], none⟩,
 ⟨(some 43), (some (39, true)), .bin .sub, [.slot 42, .val (.int .i64 1)], none⟩,
 ⟨(some 44), (some (39, true)), .ixaddr 6, [.slot 41, .slot 43], none⟩,
 ⟨(some 45), (some (39, true)), .faddr 0, [.slot 44], none⟩,
 ⟨(some 46), (some (39, true)), .load 5 true, [.slot 45], (some (.el))⟩,
 ⟨(some 47), (some (39, true)), .faddr 0, [.slot 4], none⟩,
 ⟨(some 48), (some (39, true)), .load 5 true, [.slot 47], (some (.loc 4))⟩,
 ⟨(some 49), (some (39, true)), .call f_store_Order, [.slot 46, .slot 48], none⟩,
 ⟨(some 50), (some (39, true)), .bin .geq, [.slot 49, .val (.int .i64 0)], none⟩,
 ⟨(some 51), (some (36, false)), .pick, [.slot 39, .slot 50, .val (.bool false)], none⟩,
 ⟨(some 52), none, .pick, [.slot 36, .val (.bool true), .slot 51], none⟩])
 (.cond (.slot 52)
 (.seq
 (.region [
 ⟨(some 2), none, .id, [.val (.int .i64 1)], none⟩])
 (.ret))
 (.skip)))))
 (.region [
 ⟨(some 53), none, .bin .add, [.slot 26, .val (.int .i64 1)], none⟩,
 ⟨(some 26), none, .id, [.slot 53], none⟩])))
def L1_snap_Right : ICode :=
 .seq
 (.region [
 ⟨(some 58), none, .bin .lss, [.slot 57, .slot 56], none⟩])
 (.seq
 (.cond (.slot 58)
 (.skip)
 (.exit 2))
 (.seq
 (.block 3
 (.seq
 (.region [
 ⟨(some 59), none, .ixaddr 27, [.slot 55, .slot 57], none⟩,
 ⟨(some 60), none, .load 27 true, [.slot 59], none⟩,
 ⟨(some 6), none, .allocL [(.int .i64 0), (.int .i64 0), (.int .i64 0), (.int .i64 0), (.int .i64 0), (.int .i64 0), (.int .i64 0), (.int .i64 0), (.int .i64 0), (.int .i64 0), (.int .i64 0), (.int .i64 0), (.int .i64 0), (.int .i64 0), (.int .i64 0), (.int .i64 0), (.int .i64 0), (.int .i64 0), (.int .i64 0), (.int .i64 0), (.str ⟨#[]⟩), (.str ⟨#[]⟩), (.str ⟨#[]⟩), (.str ⟨#[]⟩), (.int .i64 0), (.int .i64 0), (.str ⟨#[]⟩)], [], none⟩,
 ⟨none, none, .store 27, [.slot 6, .slot 60], none⟩])
 (.seq
 (.region [
 ⟨(some 61), none, .load 27 true, [.slot 6], none⟩,
 ⟨(some 62), none, .call f_event_Right, [.slot 61], none⟩,
 ⟨(some 63), none, .bin .neq, [.slot 62, .val (.int .i64 0)], none⟩,
 ⟨(some 64), none, .id, [.slot 63], none⟩,
 ⟨(some 65), (some (64, false)), .faddr 0, [.slot 1], none⟩,
 ⟨(some 66), (some (64, false)), .load 16 true, [.slot 65], none⟩,
 ⟨(some 67), (some (64, false)), .faddr 0, [.slot 6], none⟩,
 ⟨(some 68), (some (64, false)), .load 2 true, [.slot 67], none⟩,
 ⟨(some 69), (some (64, false)), .call f_vector_Knows, [.slot 66, .slot 68], none⟩,
 ⟨(some 70), (some (64, false)), .un .not, [.slot 69], none⟩,
 ⟨(some 71), none, .pick, [.slot 64, .val (.bool true), .slot 70], none⟩])
 (.cond (.slot 71)
 (.seq
 (.region [
 ⟨(some 2), none, .id, [.val (.int .i64 1)], none⟩])
 (.ret))
 (.skip)))))
 (.region [
 ⟨(some 72), none, .bin .add, [.slot 57, .val (.int .i64 1)], none⟩,
 ⟨(some 57), none, .id, [.slot 72], none⟩])))
def b_snap_Right : ICode :=
 .seq
 (.region [
 ⟨(some 1), none, .boxL, [.slot 0], none⟩,
 ⟨(some 2), none, .id, [.val (.int .i64 0)], none⟩])
 (.seq
 (.seq
 (.region [
 ⟨(some 7), none, .faddr 0, [.slot 1], none⟩,
 ⟨(some 8), none, .load 16 true, [.slot 7], none⟩,
 ⟨(some 9), none, .call f_vector_Right, [.slot 8], none⟩,
 ⟨(some 10), none, .un .not, [.slot 9], none⟩,
 ⟨(some 11), none, .id, [.slot 10], none⟩,
 ⟨(some 12), (some (11, false)), .faddr 16, [.slot 1], none⟩,
 ⟨(some 13), (some (11, false)), .load 1 false, [.slot 12], none⟩,
 ⟨(some 14), (some (11, false)), .lensl, [.slot 13], none⟩,
 ⟨(some 15), (some (11, false)), .bin .gtr, [.slot 14, .val (.int .i64 100000)], none⟩,
 ⟨(some 16), none, .pick, [.slot 11, .val (.bool true), .slot 15], none⟩,
 ⟨(some 17), none, .id, [.slot 16], none⟩,
 ⟨(some 18), (some (17, false)), .faddr 17, [.slot 1], none⟩,
 ⟨(some 19), (some (17, false)), .load 1 false, [.slot 18], none⟩,
 ⟨(some 20), (some (17, false)), .lensl, [.slot 19], none⟩,
 ⟨(some 21), (some (17, false)), .bin .gtr, [.slot 20, .val (.int .i64 100000)], none⟩,
 ⟨(some 22), none, .pick, [.slot 17, .val (.bool true), .slot 21], none⟩])
 (.cond (.slot 22)
 (.seq
 (.region [
 ⟨(some 2), none, .id, [.val (.int .i64 1)], none⟩])
 (.ret))
 (.skip)))
 (.seq
 (.seq
 (.region [
 ⟨(some 23), none, .faddr 16, [.slot 1], none⟩,
 ⟨(some 24), none, .load 1 false, [.slot 23], none⟩,
 ⟨(some 25), none, .lensl, [.slot 24], none⟩,
 ⟨(some 26), none, .id, [.val (.int .i64 0)], none⟩])
 (.block 0
 (.loop L0_snap_Right)))
 (.seq
 (.seq
 (.region [
 ⟨(some 54), none, .faddr 17, [.slot 1], none⟩,
 ⟨(some 55), none, .load 1 false, [.slot 54], none⟩,
 ⟨(some 56), none, .lensl, [.slot 55], none⟩,
 ⟨(some 57), none, .id, [.val (.int .i64 0)], none⟩])
 (.block 2
 (.loop L1_snap_Right)))
 (.seq
 (.region [
 ⟨(some 2), none, .id, [.val (.int .i64 0)], none⟩])
 (.ret)))))
def F_snap_Right : IFun := ⟨73, [.slot 2], b_snap_Right, 6, 0, nofn⟩
theorem c_snap_Right : cFun Tryz.prog [1048577, 1048580, 1048582, 2097233] 0 f_snap_Right = some F_snap_Right := by kernel_rfl

def L0_snap_Parse : ICode :=
 .seq
 (.region [
 ⟨(some 11), none, .bin .lss, [.slot 10, .val (.int .i64 16)], none⟩])
 (.seq
 (.cond (.slot 11)
 (.skip)
 (.exit 0))
 (.seq
 (.block 1
 (.seq
 (.region [
 ⟨(some 12), none, .id, [.slot 10], none⟩,
 ⟨(some 6), none, .id, [.slot 12], none⟩])
 (.region [
 ⟨(some 13), none, .id, [.slot 6], none⟩,
 ⟨(some 14), none, .id, [.slot 4], none⟩,
 ⟨(some 15), none, .call f_num_Reader_Num, [.slot 14, .val (.int .i64 4611686018427387903)], none⟩,
 ⟨(some 16), none, .faddr 0, [.slot 5], none⟩,
 ⟨(some 17), none, .ixaddrA 16 1, [.slot 16, .slot 13], none⟩,
 ⟨none, none, .store 1, [.slot 17, .slot 15], none⟩])))
 (.region [
 ⟨(some 18), none, .bin .add, [.slot 10, .val (.int .i64 1)], none⟩,
 ⟨(some 10), none, .id, [.slot 18], none⟩])))
def b_snap_Parse : ICode :=
 .seq
 (.region [
 ⟨(some 2), none, .allocL [(.int .i64 0), (.int .i64 0), (.int .i64 0), (.int .i64 0), (.int .i64 0), (.int .i64 0), (.int .i64 0), (.int .i64 0), (.int .i64 0), (.int .i64 0), (.int .i64 0), (.int .i64 0), (.int .i64 0), (.int .i64 0), (.int .i64 0), (.int .i64 0), .nilsl, .nilsl], [], none⟩,
 ⟨(some 3), none, .id, [.val (.int .i64 0)], none⟩])
 (.seq
 (.region [
 ⟨(some 8), none, .id, [.slot 0], none⟩,
 ⟨(some 9), none, .call f_num_Read, [.slot 8], none⟩,
 ⟨(some 4), none, .id, [.slot 9], none⟩])
 (.seq
 (.region [
 ⟨(some 5), none, .allocL [(.int .i64 0), (.int .i64 0), (.int .i64 0), (.int .i64 0), (.int .i64 0), (.int .i64 0), (.int .i64 0), (.int .i64 0), (.int .i64 0), (.int .i64 0), (.int .i64 0), (.int .i64 0), (.int .i64 0), (.int .i64 0), (.int .i64 0), (.int .i64 0), .nilsl, .nilsl], [], none⟩])
 (.seq
 (.seq
 (.region [
 ⟨(some 10), none, .id, [.val (.int .i64 0)], none⟩])
 (.block 0
 (.loop L0_snap_Parse)))
 (.seq
 (.region [
 ⟨(some 19), none, .id, [.slot 4], none⟩,
 ⟨(some 20), none, .call f_snap_rowsstore_Item, [.slot 19, .val (.func 88 [] [])], none⟩,
 ⟨(some 21), none, .faddr 16, [.slot 5], none⟩,
 ⟨none, none, .store 1, [.slot 21, .slot 20], none⟩])
 (.seq
 (.region [
 ⟨(some 7), none, .allocH 4 [(.bool false)], [], none⟩,
 ⟨none, none, .store 1, [.slot 7, .val (.bool false)], none⟩])
 (.seq
 (.region [
 ⟨(some 22), none, .id, [.slot 4], none⟩,
 ⟨(some 23), none, .mkfunc f_snap_Parse_1 0, [.slot 7], none⟩,
 ⟨(some 24), none, .call f_snap_rowsapi_Event, [.slot 22, .slot 23], none⟩,
 ⟨(some 25), none, .faddr 17, [.slot 5], none⟩,
 ⟨none, none, .store 1, [.slot 25, .slot 24], none⟩])
 (.seq
 (.seq
 (.region [
 ⟨(some 26), none, .id, [.slot 4], none⟩,
 ⟨(some 27), none, .call f_num_Reader_Done, [.slot 26], none⟩,
 ⟨(some 28), none, .un .not, [.slot 27], none⟩])
 (.cond (.slot 28)
 (.seq
 (.region [
 ⟨(some 29), none, .build [(.int .i64 0), (.int .i64 0), (.int .i64 0), (.int .i64 0), (.int .i64 0), (.int .i64 0), (.int .i64 0), (.int .i64 0), (.int .i64 0), (.int .i64 0), (.int .i64 0), (.int .i64 0), (.int .i64 0), (.int .i64 0), (.int .i64 0), (.int .i64 0), .nilsl, .nilsl] [], [], none⟩,
 ⟨none, none, .store 18, [.slot 2, .slot 29], none⟩,
 ⟨(some 3), none, .id, [.val (.int .i64 2)], none⟩])
 (.ret))
 (.skip)))
 (.seq
 (.seq
 (.region [
 ⟨(some 30), none, .load 1 false, [.slot 7], none⟩,
 ⟨(some 31), none, .id, [.slot 30], none⟩,
 ⟨(some 32), (some (31, false)), .load 18 true, [.slot 5], none⟩,
 ⟨(some 33), (some (31, false)), .call f_snap_Right, [.slot 32], none⟩,
 ⟨(some 34), (some (31, false)), .bin .neq, [.slot 33, .val (.int .i64 0)], none⟩,
 ⟨(some 35), none, .pick, [.slot 31, .val (.bool true), .slot 34], none⟩])
 (.cond (.slot 35)
 (.seq
 (.region [
 ⟨(some 36), none, .build [(.int .i64 0), (.int .i64 0), (.int .i64 0), (.int .i64 0), (.int .i64 0), (.int .i64 0), (.int .i64 0), (.int .i64 0), (.int .i64 0), (.int .i64 0), (.int .i64 0), (.int .i64 0), (.int .i64 0), (.int .i64 0), (.int .i64 0), (.int .i64 0), .nilsl, .nilsl] [], [], none⟩,
 ⟨none, none, .store 18, [.slot 2, .slot 36], none⟩,
 ⟨(some 3), none, .id, [.val (.int .i64 1)], none⟩])
 (.ret))
 (.skip)))
 (.seq
 (.region [
 ⟨(some 37), none, .load 18 true, [.slot 5], none⟩,
 ⟨none, none, .store 18, [.slot 2, .slot 37], none⟩,
 ⟨(some 3), none, .id, [.val (.int .i64 0)], none⟩])
 (.ret))))))))))
def F_snap_Parse : IFun := ⟨38, [.cell 2 18 true, .slot 3], b_snap_Parse, 6, 1, nofn⟩
theorem c_snap_Parse : cFun Tryz.prog [7, 1048578, 1048581, 2097245] 1 f_snap_Parse = some F_snap_Parse := by kernel_rfl

def L0_hedgerowref12_Bytes : ICode :=
 .seq
 (.region [
 ⟨(some 21), none, .bin .lss, [.slot 20, .val (.int .i64 16)], none⟩])
 (.seq
 (.cond (.slot 21)
 (.skip)
 (.exit 0))
 (.seq
 (.block 1
 (.seq
 (.region [
 ⟨(some 22), none, .ixarr 16 1 false, [.slot 19, .slot 20], none⟩,
 ⟨(some 9), none, .id, [.slot 22], none⟩])
 (.region [
 ⟨(some 23), none, .id, [.slot 7], none⟩,
 ⟨(some 24), none, .id, [.slot 9], none⟩,
 ⟨(some 25), none, .call f_hedgerowref02_Put, [.slot 23, .slot 24], none⟩,
 ⟨(some 7), none, .id, [.slot 25], none⟩])))
 (.region [
 ⟨(some 26), none, .bin .add, [.slot 20, .val (.int .i64 1)], none⟩,
 ⟨(some 20), none, .id, [.slot 26], none⟩])))
def L1_hedgerowref12_Bytes : ICode :=
 .seq
 (.region [
 ⟨(some 57), none, .bin .lss, [.slot 56, .slot 55], none⟩])
 (.seq
 (.cond (.slot 57)
 (.skip)
 (.exit 4))
 (.seq
 (.block 5
 (.seq
 (.region [
 ⟨(some 58), none, .ixaddr 1, [.slot 54, .slot 56], none⟩,
 ⟨(some 59), none, .load 1 false, [.slot 58], none⟩,
 ⟨(some 13), none, .id, [.slot 59], none⟩])
 (.region [
 ⟨(some 60), none, .id, [.slot 7], none⟩,
 ⟨(some 61), none, .id, [.slot 13], none⟩,
 ⟨(some 62), none, .call f_hedgerowref02_Text, [.slot 60, .slot 61], none⟩,
 ⟨(some 7), none, .id, [.slot 62], none⟩])))
 (.region [
 ⟨(some 63), none, .bin .add, [.slot 56, .val (.int .i64 1)], none⟩,
 ⟨(some 56), none, .id, [.slot 63], none⟩])))
def L2_hedgerowref12_Bytes : ICode :=
 .seq
 (.region [
 ⟨(some 73), none, .bin .lss, [.slot 72, .slot 71], none⟩])
 (.seq
 (.cond (.slot 73)
 (.skip)
 (.exit 6))
 (.seq
 (.block 7
 (.seq
 (.region [
 ⟨(some 74), none, .id, [.slot 72], none⟩,
 ⟨(some 75), none, .ixaddr 2, [.slot 70, .slot 72], none⟩,
 ⟨(some 76), none, .load 2 true, [.slot 75], none⟩,
 ⟨(some 15), none, .allocL [(.int .i64 0), (.int .i64 0)], [], none⟩,
 ⟨(some 14), none, .id, [.slot 74], none⟩,
 ⟨none, none, .store 2, [.slot 15, .slot 76], none⟩])
 (.seq
 (.region [
 ⟨(some 77), none, .id, [.slot 7], none⟩,
 ⟨(some 78), none, .faddr 0, [.slot 15], none⟩,
 ⟨(some 79), none, .load 1 false, [.slot 78], (some (.loc 15))⟩,
 ⟨(some 80), none, .call f_hedgerowref02_Put, [.slot 77, .slot 79], none⟩,
 ⟨(some 81), none, .faddr 1, [.slot 15], none⟩,
 ⟨(some 82), none, .load 1 false, [.slot 81], (some (.loc 15))⟩,
 ⟨(some 83), none, .call f_hedgerowref02_Put, [.slot 80, .slot 82], none⟩,
 ⟨(some 7), none, .id, [.slot 83], none⟩])
 (.seq
 (.region [
 ⟨(some 84), none, .faddr 6, [.slot 11], none⟩,
 ⟨(some 85), none, .load 1 false, [.slot 84], none⟩,
 ⟨(some 86), none, .id, [.slot 14], none⟩,
 ⟨(some 87), none, .ixaddr 3, [.slot 85, .slot 86], none⟩,
 ⟨(some 88), none, .load 3 true, [.slot 87], none⟩,
 ⟨(some 16), none, .allocL [(.int .i64 0), (.int .i64 0), (.str ⟨#[]⟩)], [], none⟩,
 ⟨none, none, .store 3, [.slot 16, .slot 88], none⟩])
 (.region [
 ⟨(some 89), none, .id, [.slot 7], none⟩,
 ⟨(some 90), none, .faddr 0, [.slot 16], none⟩,
 ⟨(some 91), none, .load 1 false, [.slot 90], (some (.loc 16))⟩,
 ⟨(some 92), none, .call f_hedgerowref02_Put, [.slot 89, .slot 91], none⟩,
 ⟨(some 93), none, .faddr 1, [.slot 16], none⟩,
 ⟨(some 94), none, .load 1 false, [.slot 93], (some (.loc 16))⟩,
 ⟨(some 95), none, .call f_hedgerowref02_Signed, [.slot 92, .slot 94], none⟩,
 ⟨(some 96), none, .faddr 2, [.slot 16], none⟩,
 ⟨(some 97), none, .load 1 false, [.slot 96], (some (.loc 16))⟩,
 ⟨(some 98), none, .call f_hedgerowref02_Text, [.slot 95, .slot 97], none⟩,
 ⟨(some 7), none, .id, [.slot 98], none⟩])))))
 (.region [
 ⟨(some 99), none, .bin .add, [.slot 72, .val (.int .i64 1)], none⟩,
 ⟨(some 72), none, .id, [.slot 99], none⟩])))
def L3_hedgerowref12_Bytes : ICode :=
 .seq
 (.region [
 ⟨(some 34), none, .bin .lss, [.slot 33, .slot 32], none⟩])
 (.seq
 (.cond (.slot 34)
 (.skip)
 (.exit 2))
 (.seq
 (.block 3
 (.seq
 (.region [
 ⟨(some 35), none, .ixaddr 7, [.slot 31, .slot 33], none⟩,
 ⟨(some 36), none, .load 7 true, [.slot 35], none⟩,
 ⟨(some 11), none, .allocL [(.int .i64 0), (.str ⟨#[]⟩), (.str ⟨#[]⟩), (.str ⟨#[]⟩), (.str ⟨#[]⟩), .nilsl, .nilsl], [], none⟩,
 ⟨none, none, .store 7, [.slot 11, .slot 36], none⟩])
 (.seq
 (.region [
 ⟨(some 37), none, .id, [.slot 7], none⟩,
 ⟨(some 38), none, .faddr 0, [.slot 11], none⟩,
 ⟨(some 39), none, .faddr 0, [.slot 38], none⟩,
 ⟨(some 40), none, .load 1 false, [.slot 39], none⟩,
 ⟨(some 41), none, .call f_hedgerowref02_Put, [.slot 37, .slot 40], none⟩,
 ⟨(some 7), none, .id, [.slot 41], none⟩])
 (.seq
 (.seq
 (.region [
 ⟨(some 42), none, .faddr 0, [.slot 11], none⟩,
 ⟨(some 43), none, .faddr 1, [.slot 42], none⟩,
 ⟨(some 44), none, .load 1 false, [.slot 43], none⟩,
 ⟨(some 45), none, .faddr 0, [.slot 11], none⟩,
 ⟨(some 46), none, .faddr 2, [.slot 45], none⟩,
 ⟨(some 47), none, .load 1 false, [.slot 46], none⟩,
 ⟨(some 48), none, .faddr 0, [.slot 11], none⟩,
 ⟨(some 49), none, .faddr 3, [.slot 48], none⟩,
 ⟨(some 50), none, .load 1 false, [.slot 49], none⟩,
 ⟨(some 51), none, .faddr 0, [.slot 11], none⟩,
 ⟨(some 52), none, .faddr 4, [.slot 51], none⟩,
 ⟨(some 53), none, .load 1 false, [.slot 52], none⟩,
 ⟨(some 54), none, .buildSl 1 4 (.str ⟨#[]⟩) [0, 1, 2, 3], [.slot 44, .slot 47, .slot 50, .slot 53], none⟩,
 ⟨(some 55), none, .lensl, [.slot 54], none⟩,
 ⟨(some 56), none, .id, [.val (.int .i64 0)], none⟩])
 (.block 4
 (.loop L1_hedgerowref12_Bytes)))
 (.seq
 (.region [
 ⟨(some 64), none, .id, [.slot 7], none⟩,
 ⟨(some 65), none, .faddr 5, [.slot 11], none⟩,
 ⟨(some 66), none, .load 1 false, [.slot 65], none⟩,
 ⟨(some 67), none, .lensl, [.slot 66], none⟩,
 ⟨(some 68), none, .call f_hedgerowref02_Put, [.slot 64, .slot 67], none⟩,
 ⟨(some 7), none, .id, [.slot 68], none⟩])
 (.seq
 (.region [
 ⟨(some 69), none, .faddr 5, [.slot 11], none⟩,
 ⟨(some 70), none, .load 1 false, [.slot 69], none⟩,
 ⟨(some 71), none, .lensl, [.slot 70], none⟩,
 ⟨(some 72), none, .id, [.val (.int .i64 0)], none⟩])
 (.block 6
 (.loop L2_hedgerowref12_Bytes))))))))
 (.region [
 ⟨(some 100), none, .bin .add, [.slot 33, .val (.int .i64 1)], none⟩,
 ⟨(some 33), none, .id, [.slot 100], none⟩])))
def L4_hedgerowref12_Bytes : ICode :=
 .seq
 (.region [
 ⟨(some 108), none, .bin .lss, [.slot 107, .slot 106], none⟩])
 (.seq
 (.cond (.slot 108)
 (.skip)
 (.exit 8))
 (.seq
 (.block 9
 (.seq
 (.region [
 ⟨(some 109), none, .ixaddr 27, [.slot 105, .slot 107], none⟩,
 ⟨(some 110), none, .load 27 true, [.slot 109], none⟩,
 ⟨(some 18), none, .allocL [(.int .i64 0), (.int .i64 0), (.int .i64 0), (.int .i64 0), (.int .i64 0), (.int .i64 0), (.int .i64 0), (.int .i64 0), (.int .i64 0), (.int .i64 0), (.int .i64 0), (.int .i64 0), (.int .i64 0), (.int .i64 0), (.int .i64 0), (.int .i64 0), (.int .i64 0), (.int .i64 0), (.int .i64 0), (.int .i64 0), (.str ⟨#[]⟩), (.str ⟨#[]⟩), (.str ⟨#[]⟩), (.str ⟨#[]⟩), (.int .i64 0), (.int .i64 0), (.str ⟨#[]⟩)], [], none⟩,
 ⟨none, none, .store 27, [.slot 18, .slot 110], none⟩])
 (.region [
 ⟨(some 111), none, .id, [.slot 7], none⟩,
 ⟨(some 112), none, .load 27 true, [.slot 18], none⟩,
 ⟨(some 113), none, .call f_hedgerowref06_Put, [.slot 111, .slot 112], none⟩,
 ⟨(some 7), none, .id, [.slot 113], none⟩])))
 (.region [
 ⟨(some 114), none, .bin .add, [.slot 107, .val (.int .i64 1)], none⟩,
 ⟨(some 107), none, .id, [.slot 114], none⟩])))
def b_hedgerowref12_Bytes : ICode :=
 .seq
 (.region [
 ⟨(some 3), none, .boxL, [.slot 0], none⟩,
 ⟨(some 6), none, .id, [.val .nilsl], none⟩])
 (.seq
 (.region [
 ⟨(some 7), none, .id, [.val .nilsl], none⟩])
 (.seq
 (.seq
 (.region [
 ⟨(some 19), none, .load 16 true, [.slot 3], none⟩,
 ⟨(some 20), none, .id, [.val (.int .i64 0)], none⟩])
 (.block 0
 (.loop L0_hedgerowref12_Bytes)))
 (.seq
 (.region [
 ⟨(some 27), none, .id, [.slot 7], none⟩,
 ⟨(some 28), none, .id, [.slot 1], none⟩,
 ⟨(some 29), none, .lensl, [.slot 28], none⟩,
 ⟨(some 30), none, .call f_hedgerowref02_Put, [.slot 27, .slot 29], none⟩,
 ⟨(some 7), none, .id, [.slot 30], none⟩])
 (.seq
 (.seq
 (.region [
 ⟨(some 31), none, .id, [.slot 1], none⟩,
 ⟨(some 32), none, .lensl, [.slot 31], none⟩,
 ⟨(some 33), none, .id, [.val (.int .i64 0)], none⟩])
 (.block 2
 (.loop L3_hedgerowref12_Bytes)))
 (.seq
 (.region [
 ⟨(some 101), none, .id, [.slot 7], none⟩,
 ⟨(some 102), none, .id, [.slot 2], none⟩,
 ⟨(some 103), none, .lensl, [.slot 102], none⟩,
 ⟨(some 104), none, .call f_hedgerowref02_Put, [.slot 101, .slot 103], none⟩,
 ⟨(some 7), none, .id, [.slot 104], none⟩])
 (.seq
 (.seq
 (.region [
 ⟨(some 105), none, .id, [.slot 2], none⟩,
 ⟨(some 106), none, .lensl, [.slot 105], none⟩,
 ⟨(some 107), none, .id, [.val (.int .i64 0)], none⟩])
 (.block 8
 (.loop L4_hedgerowref12_Bytes)))
 (.seq
 (.region [
 ⟨(some 115), none, .id, [.slot 7], none⟩,
 ⟨(some 6), none, .id, [.slot 115], none⟩])
 (.ret))))))))
def F_hedgerowref12_Bytes : IFun := ⟨116, [.slot 6], b_hedgerowref12_Bytes, 6, 1, nofn⟩
theorem c_hedgerowref12_Bytes : cFun Tryz.prog [1048579, 1048587, 1048591, 1048592, 1048594] 1 f_hedgerowref12_Bytes = some F_hedgerowref12_Bytes := by kernel_rfl

def L0_hedgerowlaw12_items : ICode :=
 .seq
 (.region [
 ⟨(some 22), none, .bin .lss, [.slot 21, .slot 20], none⟩])
 (.seq
 (.cond (.slot 22)
 (.skip)
 (.exit 2))
 (.seq
 (.block 3
 (.seq
 (.region [
 ⟨(some 23), none, .ixaddr 5, [.slot 19, .slot 21], none⟩,
 ⟨(some 24), none, .load 5 true, [.slot 23], none⟩,
 ⟨(some 8), none, .allocL [(.int .i64 0), (.int .i64 0), (.int .i64 0), (.int .i64 0), (.str ⟨#[]⟩)], [], none⟩,
 ⟨none, none, .store 5, [.slot 8, .slot 24], none⟩])
 (.region [
 ⟨(some 25), none, .faddr 5, [.slot 6], none⟩,
 ⟨(some 26), none, .load 1 false, [.slot 25], (some (.loc 6))⟩,
 ⟨(some 27), none, .faddr 0, [.slot 8], none⟩,
 ⟨(some 28), none, .load 2 true, [.slot 27], (some (.loc 8))⟩,
 ⟨(some 29), none, .buildSl 2 1 (.agg [(.int .i64 0), (.int .i64 0)]) [0], [.slot 28], none⟩,
 ⟨(some 30), none, .append 43 2 16, [.slot 26, .slot 29], none⟩,
 ⟨(some 31), none, .faddr 6, [.slot 6], none⟩,
 ⟨(some 32), none, .load 1 false, [.slot 31], (some (.loc 6))⟩,
 ⟨(some 33), none, .faddr 2, [.slot 8], none⟩,
 ⟨(some 34), none, .load 3 true, [.slot 33], (some (.loc 8))⟩,
 ⟨(some 35), none, .buildSl 3 1 (.agg [(.int .i64 0), (.int .i64 0), (.str ⟨#[]⟩)]) [0], [.slot 34], none⟩,
 ⟨(some 36), none, .append 47 3 32, [.slot 32, .slot 35], none⟩,
 ⟨(some 37), none, .faddr 5, [.slot 6], none⟩,
 ⟨none, none, .store 1, [.slot 37, .slot 30], (some (.loc 6))⟩,
 ⟨(some 38), none, .faddr 6, [.slot 6], none⟩,
 ⟨none, none, .store 1, [.slot 38, .slot 36], (some (.loc 6))⟩])))
 (.region [
 ⟨(some 39), none, .bin .add, [.slot 21, .val (.int .i64 1)], none⟩,
 ⟨(some 21), none, .id, [.slot 39], none⟩])))
def L1_hedgerowlaw12_items : ICode :=
 .seq
 (.region [
 ⟨(some 12), none, .bin .lss, [.slot 11, .slot 10], none⟩])
 (.seq
 (.cond (.slot 12)
 (.skip)
 (.exit 0))
 (.seq
 (.block 1
 (.seq
 (.region [
 ⟨(some 13), none, .ixaddr 6, [.slot 9, .slot 11], none⟩,
 ⟨(some 14), none, .load 6 true, [.slot 13], none⟩,
 ⟨(some 5), none, .allocL [(.int .i64 0), (.str ⟨#[]⟩), (.str ⟨#[]⟩), (.str ⟨#[]⟩), (.str ⟨#[]⟩), .nilsl], [], none⟩,
 ⟨none, none, .store 6, [.slot 5, .slot 14], none⟩])
 (.seq
 (.region [
 ⟨(some 15), none, .faddr 0, [.slot 5], none⟩,
 ⟨(some 16), none, .load 5 true, [.slot 15], none⟩,
 ⟨(some 17), none, .build [(.int .i64 0), (.str ⟨#[]⟩), (.str ⟨#[]⟩), (.str ⟨#[]⟩), (.str ⟨#[]⟩), .nilsl, .nilsl] [(0, 5)], [.slot 16], none⟩,
 ⟨(some 6), none, .allocL [(.int .i64 0), (.str ⟨#[]⟩), (.str ⟨#[]⟩), (.str ⟨#[]⟩), (.str ⟨#[]⟩), .nilsl, .nilsl], [], none⟩,
 ⟨none, none, .store 7, [.slot 6, .slot 17], none⟩])
 (.seq
 (.seq
 (.region [
 ⟨(some 18), none, .faddr 5, [.slot 5], none⟩,
 ⟨(some 19), none, .load 1 false, [.slot 18], none⟩,
 ⟨(some 20), none, .lensl, [.slot 19], none⟩,
 ⟨(some 21), none, .id, [.val (.int .i64 0)], none⟩])
 (.block 2
 (.loop L0_hedgerowlaw12_items)))
 (.region [
 ⟨(some 40), none, .id, [.slot 3], none⟩,
 ⟨(some 41), none, .load 7 true, [.slot 6], none⟩,
 ⟨(some 42), none, .buildSl 7 1 (.agg [(.int .i64 0), (.str ⟨#[]⟩), (.str ⟨#[]⟩), (.str ⟨#[]⟩), (.str ⟨#[]⟩), .nilsl, .nilsl]) [0], [.slot 41], none⟩,
 ⟨(some 43), none, .append 137 7 120, [.slot 40, .slot 42], none⟩,
 ⟨(some 3), none, .id, [.slot 43], none⟩])))))
 (.region [
 ⟨(some 44), none, .bin .add, [.slot 11, .val (.int .i64 1)], none⟩,
 ⟨(some 11), none, .id, [.slot 44], none⟩])))
def b_hedgerowlaw12_items : ICode :=
 .seq
 (.region [
 ⟨(some 2), none, .id, [.val .nilsl], none⟩])
 (.seq
 (.region [
 ⟨(some 3), none, .id, [.val .nilsl], none⟩])
 (.seq
 (.seq
 (.region [
 ⟨(some 9), none, .id, [.slot 0], none⟩,
 ⟨(some 10), none, .lensl, [.slot 9], none⟩,
 ⟨(some 11), none, .id, [.val (.int .i64 0)], none⟩])
 (.block 0
 (.loop L1_hedgerowlaw12_items)))
 (.seq
 (.region [
 ⟨(some 45), none, .id, [.slot 3], none⟩,
 ⟨(some 2), none, .id, [.slot 45], none⟩])
 (.ret))))
def F_hedgerowlaw12_items : IFun := ⟨46, [.slot 2], b_hedgerowlaw12_items, 6, 1, nofn⟩
theorem c_hedgerowlaw12_items : cFun Tryz.prog [1048581, 1048582, 1048584] 1 f_hedgerowlaw12_items = some F_hedgerowlaw12_items := by kernel_rfl

def b_snap_Same : ICode :=
 .seq
 (.region [
 ⟨(some 2), none, .boxL, [.slot 0], none⟩,
 ⟨(some 3), none, .boxL, [.slot 1], none⟩,
 ⟨(some 4), none, .id, [.val (.bool false)], none⟩])
 (.seq
 (.region [
 ⟨(some 5), none, .id, [.val (.func 98 [] [])], none⟩])
 (.seq
 (.region [
 ⟨(some 6), none, .faddr 0, [.slot 2], none⟩,
 ⟨(some 7), none, .load 16 true, [.slot 6], none⟩,
 ⟨(some 8), none, .faddr 0, [.slot 3], none⟩,
 ⟨(some 9), none, .load 16 true, [.slot 8], none⟩,
 ⟨(some 10), none, .eqv false [(.int .i64), (.int .i64), (.int .i64), (.int .i64), (.int .i64), (.int .i64), (.int .i64), (.int .i64), (.int .i64), (.int .i64), (.int .i64), (.int .i64), (.int .i64), (.int .i64), (.int .i64), (.int .i64)], [.slot 7, .slot 9], none⟩,
 ⟨(some 11), none, .id, [.slot 10], none⟩,
 ⟨(some 12), (some (11, true)), .faddr 16, [.slot 2], none⟩,
 ⟨(some 13), (some (11, true)), .load 1 false, [.slot 12], none⟩,
 ⟨(some 14), (some (11, true)), .faddr 16, [.slot 3], none⟩,
 ⟨(some 15), (some (11, true)), .load 1 false, [.slot 14], none⟩,
 ⟨(some 16), (some (11, true)), .id, [.slot 5], none⟩,
 ⟨(some 17), (some (11, true)), .call f_slices_EqualFuncstore_Itemstore_Itemstore_Itemstore_Item, [.slot 13, .slot 15, .slot 16], none⟩,
 ⟨(some 18), none, .pick, [.slot 11, .slot 17, .val (.bool false)], none⟩,
 ⟨(some 19), none, .id, [.slot 18], none⟩,
 ⟨(some 20), (some (19, true)), .faddr 17, [.slot 2], none⟩,
 ⟨(some 21), (some (19, true)), .load 1 false, [.slot 20], none⟩,
 ⟨(some 22), (some (19, true)), .faddr 17, [.slot 3], none⟩,
 ⟨(some 23), (some (19, true)), .load 1 false, [.slot 22], none⟩,
 ⟨(some 24), (some (19, true)), .call f_slices_Equalapi_Eventapi_Event, [.slot 21, .slot 23], none⟩,
 ⟨(some 25), none, .pick, [.slot 19, .slot 24, .val (.bool false)], none⟩,
 ⟨(some 4), none, .id, [.slot 25], none⟩])
 (.ret)))
def F_snap_Same : IFun := ⟨26, [.slot 4], b_snap_Same, 6, 0, nofn⟩
theorem c_snap_Same : cFun Tryz.prog [1048578, 1048579] 0 f_snap_Same = some F_snap_Same := by kernel_rfl

def b_hedgerowref06_Short : ICode :=
 .seq
 (.region [
 ⟨(some 1), none, .boxL, [.slot 0], none⟩,
 ⟨(some 2), none, .id, [.val (.bool false)], none⟩])
 (.seq
 (.region [
 ⟨(some 3), none, .faddr 19, [.slot 1], none⟩,
 ⟨(some 4), none, .faddr 1, [.slot 3], none⟩,
 ⟨(some 5), none, .load 1 false, [.slot 4], none⟩,
 ⟨(some 6), none, .lenstr, [.slot 5], none⟩,
 ⟨(some 7), none, .faddr 19, [.slot 1], none⟩,
 ⟨(some 8), none, .faddr 2, [.slot 7], none⟩,
 ⟨(some 9), none, .load 1 false, [.slot 8], none⟩,
 ⟨(some 10), none, .lenstr, [.slot 9], none⟩,
 ⟨(some 11), none, .bin .add, [.slot 6, .slot 10], none⟩,
 ⟨(some 12), none, .faddr 19, [.slot 1], none⟩,
 ⟨(some 13), none, .faddr 3, [.slot 12], none⟩,
 ⟨(some 14), none, .load 1 false, [.slot 13], none⟩,
 ⟨(some 15), none, .lenstr, [.slot 14], none⟩,
 ⟨(some 16), none, .bin .add, [.slot 11, .slot 15], none⟩,
 ⟨(some 17), none, .faddr 19, [.slot 1], none⟩,
 ⟨(some 18), none, .faddr 4, [.slot 17], none⟩,
 ⟨(some 19), none, .load 1 false, [.slot 18], none⟩,
 ⟨(some 20), none, .lenstr, [.slot 19], none⟩,
 ⟨(some 21), none, .bin .add, [.slot 16, .slot 20], none⟩,
 ⟨(some 22), none, .faddr 24, [.slot 1], none⟩,
 ⟨(some 23), none, .faddr 2, [.slot 22], none⟩,
 ⟨(some 24), none, .load 1 false, [.slot 23], none⟩,
 ⟨(some 25), none, .lenstr, [.slot 24], none⟩,
 ⟨(some 26), none, .bin .add, [.slot 21, .slot 25], none⟩,
 ⟨(some 27), none, .bin .leq, [.slot 26, .val (.int .i64 300)], none⟩,
 ⟨(some 2), none, .id, [.slot 27], none⟩])
 (.ret))
def F_hedgerowref06_Short : IFun := ⟨28, [.slot 2], b_hedgerowref06_Short, 6, 0, nofn⟩
theorem c_hedgerowref06_Short : cFun Tryz.prog [1048577] 0 f_hedgerowref06_Short = some F_hedgerowref06_Short := by kernel_rfl

def b_store_New : ICode :=
 .seq
 (.region [
 ⟨(some 0), none, .id, [.val .nilptr], none⟩])
 (.seq
 (.region [
 ⟨(some 1), none, .mkmap true [(.int .i64), .str, .str, .str, .str], [], none⟩,
 ⟨(some 2), none, .build [.nilmap] [(0, 1)], [.slot 1], none⟩,
 ⟨(some 3), none, .boxH 145, [.slot 2], none⟩,
 ⟨(some 0), none, .id, [.slot 3], none⟩])
 (.ret))
def F_store_New : IFun := ⟨4, [.slot 0], b_store_New, 6, 0, nofn⟩
theorem c_store_New : cFun Tryz.prog [3] 0 f_store_New = some F_store_New := by kernel_rfl

def L0_store_Store_Put : ICode :=
 .seq
 (.region [
 ⟨(some 19), none, .bin .lss, [.slot 18, .slot 17], none⟩])
 (.seq
 (.cond (.slot 19)
 (.skip)
 (.exit 0))
 (.seq
 (.block 1
 (.seq
 (.region [
 ⟨(some 20), none, .id, [.slot 18], none⟩,
 ⟨(some 21), none, .ixaddr 5, [.slot 16, .slot 18], none⟩,
 ⟨(some 22), none, .load 5 true, [.slot 21], none⟩,
 ⟨(some 6), none, .allocL [(.int .i64 0), (.int .i64 0), (.int .i64 0), (.int .i64 0), (.str ⟨#[]⟩)], [], none⟩,
 ⟨(some 5), none, .id, [.slot 20], none⟩,
 ⟨none, none, .store 5, [.slot 6, .slot 22], none⟩])
 (.seq
 (.region [
 ⟨(some 23), none, .faddr 0, [.slot 3], none⟩,
 ⟨(some 24), none, .load 5 true, [.slot 23], (some (.loc 3))⟩,
 ⟨(some 25), none, .load 5 true, [.slot 6], (some (.loc 6))⟩,
 ⟨(some 26), none, .call f_store_entry, [.slot 24, .slot 25], none⟩,
 ⟨(some 27), none, .un .not, [.slot 26], none⟩,
 ⟨(some 28), none, .id, [.slot 27], none⟩,
 ⟨(some 29), (some (28, false)), .id, [.slot 5], none⟩,
 ⟨(some 30), (some (28, false)), .bin .gtr, [.slot 29, .val (.int .i64 0)], none⟩,
 ⟨(some 31), (some (28, false)), .id, [.slot 30], none⟩,
 ⟨(some 32), (some (31, true)), .faddr 5, [.slot 3], none⟩,
 ⟨(some 33), (some (31, true)), .load 1 false, [.slot 32], (some (.loc 3))⟩,
 ⟨(some 34), (some (31, true)), .id, [.slot 5], none⟩,
 ⟨(some 35), (some (31, true)), .bin .sub, [.slot 34, .val (.int .i64 1)], none⟩,
 ⟨(some 36), (some (31, true)), .ixaddr 5, [.slot 33, .slot 35], none⟩,
 ⟨(some 37), (some (31, true)), .load 5 true, [.slot 36], (some (.el))⟩,
 ⟨(some 38), (some (31, true)), .load 5 true, [.slot 6], (some (.loc 6))⟩,
 ⟨(some 39), (some (31, true)), .call f_store_byDot, [.slot 37, .slot 38], none⟩,
 ⟨(some 40), (some (31, true)), .bin .geq, [.slot 39, .val (.int .i64 0)], none⟩,
 ⟨(some 41), (some (28, false)), .pick, [.slot 31, .slot 40, .val (.bool false)], none⟩,
 ⟨(some 42), none, .pick, [.slot 28, .val (.bool true), .slot 41], none⟩])
 (.cond (.slot 42)
 (.seq
 (.region [
 ⟨(some 4), none, .id, [.val (.int .i64 1)], none⟩])
 (.ret))
 (.skip)))))
 (.region [
 ⟨(some 43), none, .bin .add, [.slot 18, .val (.int .i64 1)], none⟩,
 ⟨(some 18), none, .id, [.slot 43], none⟩])))
def b_store_Store_Put : ICode :=
 .seq
 (.region [
 ⟨(some 3), none, .boxL, [.slot 1], none⟩,
 ⟨(some 4), none, .id, [.val (.int .i64 0)], none⟩])
 (.seq
 (.seq
 (.region [
 ⟨(some 7), none, .id, [.slot 0], none⟩,
 ⟨(some 8), none, .eq1 false .ptr, [.slot 7, .val .nilptr], none⟩,
 ⟨(some 9), none, .id, [.slot 8], none⟩,
 ⟨(some 10), (some (9, false)), .faddr 0, [.slot 3], none⟩,
 ⟨(some 11), (some (9, false)), .load 5 true, [.slot 10], none⟩,
 ⟨(some 12), (some (9, false)), .call f_value_Elem, [.slot 11], none⟩,
 ⟨(some 13), (some (9, false)), .un .not, [.slot 12], none⟩,
 ⟨(some 14), none, .pick, [.slot 9, .val (.bool true), .slot 13], none⟩])
 (.cond (.slot 14)
 (.seq
 (.region [
 ⟨(some 4), none, .id, [.val (.int .i64 1)], none⟩])
 (.ret))
 (.skip)))
 (.seq
 (.seq
 (.region [
 ⟨(some 15), none, .faddr 5, [.slot 3], none⟩,
 ⟨(some 16), none, .load 1 false, [.slot 15], none⟩,
 ⟨(some 17), none, .lensl, [.slot 16], none⟩,
 ⟨(some 18), none, .id, [.val (.int .i64 0)], none⟩])
 (.block 0
 (.loop L0_store_Store_Put)))
 (.seq
 (.region [
 ⟨(some 44), none, .id, [.slot 0], none⟩,
 ⟨(some 45), none, .faddr 0, [.slot 3], none⟩,
 ⟨(some 46), none, .load 5 true, [.slot 45], (some (.loc 3))⟩,
 ⟨(some 47), none, .faddr 5, [.slot 3], none⟩,
 ⟨(some 48), none, .load 1 false, [.slot 47], (some (.loc 3))⟩,
 ⟨(some 49), none, .call f_slices_Clonestore_Entrystore_Entry, [.slot 48], none⟩,
 ⟨(some 50), none, .call f_store_Store_lay, [.slot 44, .slot 46, .slot 49], none⟩])
 (.seq
 (.region [
 ⟨(some 4), none, .id, [.val (.int .i64 0)], none⟩])
 (.ret)))))
def F_store_Store_Put : IFun := ⟨51, [.slot 4], b_store_Store_Put, 6, 0, nofn⟩
theorem c_store_Store_Put : cFun Tryz.prog [1048579, 1048582] 0 f_store_Store_Put = some F_store_Store_Put := by kernel_rfl

def L0_num_Put : ICode :=
 .seq
 (.seq
 (.region [
 ⟨(some 12), none, .id, [.slot 1], none⟩,
 ⟨(some 13), none, .bin .gtr, [.slot 12, .val (.int .i64 127)], none⟩])
 (.cond (.slot 13)
 (.skip)
 (.exit 0)))
 (.seq
 (.block 1
 (.region [
 ⟨(some 16), none, .id, [.slot 0], none⟩,
 ⟨(some 17), none, .id, [.slot 1], none⟩,
 ⟨(some 18), none, .bin .and, [.slot 17, .val (.int .i64 127)], none⟩,
 ⟨(some 19), none, .bin .or, [.slot 18, .val (.int .i64 128)], none⟩,
 ⟨(some 20), none, .conv .u8, [.slot 19], none⟩,
 ⟨(some 21), none, .buildSl 1 1 (.int .u8 0) [0], [.slot 20], none⟩,
 ⟨(some 22), none, .append 5 1 1, [.slot 16, .slot 21], none⟩,
 ⟨(some 0), none, .id, [.slot 22], none⟩]))
 (.region [
 ⟨(some 14), none, .id, [.slot 1], none⟩,
 ⟨(some 15), none, .bin .shr, [.slot 14, .val (.int .u64 7)], none⟩,
 ⟨(some 1), none, .id, [.slot 15], none⟩]))
def b_num_Put : ICode :=
 .seq
 (.region [
 ⟨(some 4), none, .id, [.val .nilsl], none⟩])
 (.seq
 (.seq
 (.region [
 ⟨(some 5), none, .id, [.slot 1], none⟩,
 ⟨(some 6), none, .bin .lss, [.slot 5, .val (.int .i64 0)], none⟩,
 ⟨(some 7), none, .id, [.slot 6], none⟩,
 ⟨(some 8), (some (7, false)), .id, [.slot 1], none⟩,
 ⟨(some 9), (some (7, false)), .bin .gtr, [.slot 8, .val (.int .i64 4611686018427387903)], none⟩,
 ⟨(some 10), none, .pick, [.slot 7, .val (.bool true), .slot 9], none⟩])
 (.cond (.slot 10)
 (.seq
 (.region [
 ⟨(some 11), none, .id, [.slot 0], none⟩,
 ⟨(some 4), none, .id, [.slot 11], none⟩])
 (.ret))
 (.skip)))
 (.seq
 (.block 0
 (.loop L0_num_Put))
 (.seq
 (.region [
 ⟨(some 23), none, .id, [.slot 0], none⟩,
 ⟨(some 24), none, .id, [.slot 1], none⟩,
 ⟨(some 25), none, .conv .u8, [.slot 24], none⟩,
 ⟨(some 26), none, .buildSl 1 1 (.int .u8 0) [0], [.slot 25], none⟩,
 ⟨(some 27), none, .append 5 1 1, [.slot 23, .slot 26], none⟩,
 ⟨(some 4), none, .id, [.slot 27], none⟩])
 (.ret))))
def F_num_Put : IFun := ⟨28, [.slot 4], b_num_Put, 6, 0, nofn⟩
theorem c_num_Put : cFun Tryz.prog [] 0 f_num_Put = some F_num_Put := by kernel_rfl

def L0_snap_putItem : ICode :=
 .seq
 (.region [
 ⟨(some 29), none, .bin .lss, [.slot 28, .slot 27], none⟩])
 (.seq
 (.cond (.slot 29)
 (.skip)
 (.exit 0))
 (.seq
 (.block 1
 (.seq
 (.region [
 ⟨(some 30), none, .ixaddr 1, [.slot 26, .slot 28], none⟩,
 ⟨(some 31), none, .load 1 false, [.slot 30], none⟩,
 ⟨(some 6), none, .id, [.slot 31], none⟩])
 (.region [
 ⟨(some 32), none, .id, [.slot 0], none⟩,
 ⟨(some 33), none, .id, [.slot 6], none⟩,
 ⟨(some 34), none, .call f_num_Text, [.slot 32, .slot 33], none⟩,
 ⟨(some 0), none, .id, [.slot 34], none⟩])))
 (.region [
 ⟨(some 35), none, .bin .add, [.slot 28, .val (.int .i64 1)], none⟩,
 ⟨(some 28), none, .id, [.slot 35], none⟩])))
def L1_snap_putItem : ICode :=
 .seq
 (.region [
 ⟨(some 45), none, .bin .lss, [.slot 44, .slot 43], none⟩])
 (.seq
 (.cond (.slot 45)
 (.skip)
 (.exit 2))
 (.seq
 (.block 3
 (.seq
 (.region [
 ⟨(some 46), none, .ixaddr 5, [.slot 42, .slot 44], none⟩,
 ⟨(some 47), none, .load 5 true, [.slot 46], none⟩,
 ⟨(some 8), none, .allocL [(.int .i64 0), (.int .i64 0), (.int .i64 0), (.int .i64 0), (.str ⟨#[]⟩)], [], none⟩,
 ⟨none, none, .store 5, [.slot 8, .slot 47], none⟩])
 (.region [
 ⟨(some 48), none, .id, [.slot 0], none⟩,
 ⟨(some 49), none, .faddr 0, [.slot 8], none⟩,
 ⟨(some 50), none, .faddr 0, [.slot 49], none⟩,
 ⟨(some 51), none, .load 1 false, [.slot 50], (some (.loc 8))⟩,
 ⟨(some 52), none, .call f_num_Put, [.slot 48, .slot 51], none⟩,
 ⟨(some 53), none, .faddr 0, [.slot 8], none⟩,
 ⟨(some 54), none, .faddr 1, [.slot 53], none⟩,
 ⟨(some 55), none, .load 1 false, [.slot 54], (some (.loc 8))⟩,
 ⟨(some 56), none, .call f_num_Put, [.slot 52, .slot 55], none⟩,
 ⟨(some 57), none, .faddr 2, [.slot 8], none⟩,
 ⟨(some 58), none, .load 3 true, [.slot 57], (some (.loc 8))⟩,
 ⟨(some 59), none, .call f_snap_putValue, [.slot 56, .slot 58], none⟩,
 ⟨(some 0), none, .id, [.slot 59], none⟩])))
 (.region [
 ⟨(some 60), none, .bin .add, [.slot 44, .val (.int .i64 1)], none⟩,
 ⟨(some 44), none, .id, [.slot 60], none⟩])))
def b_snap_putItem : ICode :=
 .seq
 (.region [
 ⟨(some 3), none, .boxL, [.slot 1], none⟩,
 ⟨(some 4), none, .id, [.val .nilsl], none⟩])
 (.seq
 (.region [
 ⟨(some 9), none, .id, [.slot 0], none⟩,
 ⟨(some 10), none, .faddr 0, [.slot 3], none⟩,
 ⟨(some 11), none, .faddr 0, [.slot 10], none⟩,
 ⟨(some 12), none, .load 1 false, [.slot 11], none⟩,
 ⟨(some 13), none, .call f_num_Put, [.slot 9, .slot 12], none⟩,
 ⟨(some 0), none, .id, [.slot 13], none⟩])
 (.seq
 (.seq
 (.region [
 ⟨(some 14), none, .faddr 0, [.slot 3], none⟩,
 ⟨(some 15), none, .faddr 1, [.slot 14], none⟩,
 ⟨(some 16), none, .load 1 false, [.slot 15], none⟩,
 ⟨(some 17), none, .faddr 0, [.slot 3], none⟩,
 ⟨(some 18), none, .faddr 2, [.slot 17], none⟩,
 ⟨(some 19), none, .load 1 false, [.slot 18], none⟩,
 ⟨(some 20), none, .faddr 0, [.slot 3], none⟩,
 ⟨(some 21), none, .faddr 3, [.slot 20], none⟩,
 ⟨(some 22), none, .load 1 false, [.slot 21], none⟩,
 ⟨(some 23), none, .faddr 0, [.slot 3], none⟩,
 ⟨(some 24), none, .faddr 4, [.slot 23], none⟩,
 ⟨(some 25), none, .load 1 false, [.slot 24], none⟩,
 ⟨(some 26), none, .buildSl 1 4 (.str ⟨#[]⟩) [0, 1, 2, 3], [.slot 16, .slot 19, .slot 22, .slot 25], none⟩,
 ⟨(some 27), none, .lensl, [.slot 26], none⟩,
 ⟨(some 28), none, .id, [.val (.int .i64 0)], none⟩])
 (.block 0
 (.loop L0_snap_putItem)))
 (.seq
 (.region [
 ⟨(some 36), none, .id, [.slot 0], none⟩,
 ⟨(some 37), none, .faddr 5, [.slot 3], none⟩,
 ⟨(some 38), none, .load 1 false, [.slot 37], none⟩,
 ⟨(some 39), none, .lensl, [.slot 38], none⟩,
 ⟨(some 40), none, .call f_num_Put, [.slot 36, .slot 39], none⟩,
 ⟨(some 0), none, .id, [.slot 40], none⟩])
 (.seq
 (.seq
 (.region [
 ⟨(some 41), none, .faddr 5, [.slot 3], none⟩,
 ⟨(some 42), none, .load 1 false, [.slot 41], none⟩,
 ⟨(some 43), none, .lensl, [.slot 42], none⟩,
 ⟨(some 44), none, .id, [.val (.int .i64 0)], none⟩])
 (.block 2
 (.loop L1_snap_putItem)))
 (.seq
 (.region [
 ⟨(some 61), none, .id, [.slot 0], none⟩,
 ⟨(some 4), none, .id, [.slot 61], none⟩])
 (.ret))))))
def F_snap_putItem : IFun := ⟨62, [.slot 4], b_snap_putItem, 6, 0, nofn⟩
theorem c_snap_putItem : cFun Tryz.prog [1048579, 1048584] 0 f_snap_putItem = some F_snap_putItem := by kernel_rfl

def L0_event_Put : ICode :=
 .seq
 (.region [
 ⟨(some 21), none, .bin .lss, [.slot 20, .slot 19], none⟩])
 (.seq
 (.cond (.slot 21)
 (.skip)
 (.exit 0))
 (.seq
 (.block 1
 (.seq
 (.region [
 ⟨(some 22), none, .ixaddr 1, [.slot 18, .slot 20], none⟩,
 ⟨(some 23), none, .load 1 false, [.slot 22], none⟩,
 ⟨(some 6), none, .id, [.slot 23], none⟩])
 (.region [
 ⟨(some 24), none, .id, [.slot 0], none⟩,
 ⟨(some 25), none, .id, [.slot 6], none⟩,
 ⟨(some 26), none, .call f_num_Put, [.slot 24, .slot 25], none⟩,
 ⟨(some 0), none, .id, [.slot 26], none⟩])))
 (.region [
 ⟨(some 27), none, .bin .add, [.slot 20, .val (.int .i64 1)], none⟩,
 ⟨(some 20), none, .id, [.slot 27], none⟩])))
def L1_event_Put : ICode :=
 .seq
 (.region [
 ⟨(some 51), none, .bin .lss, [.slot 50, .slot 49], none⟩])
 (.seq
 (.cond (.slot 51)
 (.skip)
 (.exit 2))
 (.seq
 (.block 3
 (.seq
 (.region [
 ⟨(some 52), none, .ixaddr 1, [.slot 48, .slot 50], none⟩,
 ⟨(some 53), none, .load 1 false, [.slot 52], none⟩,
 ⟨(some 8), none, .id, [.slot 53], none⟩])
 (.region [
 ⟨(some 54), none, .id, [.slot 0], none⟩,
 ⟨(some 55), none, .id, [.slot 8], none⟩,
 ⟨(some 56), none, .call f_num_Text, [.slot 54, .slot 55], none⟩,
 ⟨(some 0), none, .id, [.slot 56], none⟩])))
 (.region [
 ⟨(some 57), none, .bin .add, [.slot 50, .val (.int .i64 1)], none⟩,
 ⟨(some 50), none, .id, [.slot 57], none⟩])))
def b_event_Put : ICode :=
 .seq
 (.region [
 ⟨(some 3), none, .boxI, [.slot 1], none⟩,
 ⟨(some 4), none, .id, [.val .nilsl], none⟩])
 (.seq
 (.seq
 (.region [
 ⟨(some 9), none, .faddr 0, [.slot 3], none⟩,
 ⟨(some 10), none, .faddr 0, [.slot 9], none⟩,
 ⟨(some 11), none, .load 1 false, [.slot 10], (some (.el))⟩,
 ⟨(some 12), none, .faddr 0, [.slot 3], none⟩,
 ⟨(some 13), none, .faddr 1, [.slot 12], none⟩,
 ⟨(some 14), none, .load 1 false, [.slot 13], (some (.el))⟩,
 ⟨(some 15), none, .buildSl 1 2 (.int .i64 0) [0, 1], [.slot 11, .slot 14], none⟩,
 ⟨(some 16), none, .faddr 2, [.slot 3], none⟩,
 ⟨(some 17), none, .slarr 16 1, [.slot 16], none⟩,
 ⟨(some 18), none, .append 3 1 8, [.slot 15, .slot 17], none⟩,
 ⟨(some 19), none, .lensl, [.slot 18], none⟩,
 ⟨(some 20), none, .id, [.val (.int .i64 0)], none⟩])
 (.block 0
 (.loop L0_event_Put)))
 (.seq
 (.region [
 ⟨(some 28), none, .id, [.slot 0], none⟩,
 ⟨(some 29), none, .faddr 18, [.slot 3], none⟩,
 ⟨(some 30), none, .load 1 false, [.slot 29], (some (.el))⟩,
 ⟨(some 31), none, .call f_num_Put, [.slot 28, .slot 30], none⟩,
 ⟨(some 32), none, .faddr 19, [.slot 3], none⟩,
 ⟨(some 33), none, .faddr 0, [.slot 32], none⟩,
 ⟨(some 34), none, .load 1 false, [.slot 33], (some (.el))⟩,
 ⟨(some 35), none, .call f_num_Put, [.slot 31, .slot 34], none⟩,
 ⟨(some 0), none, .id, [.slot 35], none⟩])
 (.seq
 (.seq
 (.region [
 ⟨(some 36), none, .faddr 19, [.slot 3], none⟩,
 ⟨(some 37), none, .faddr 1, [.slot 36], none⟩,
 ⟨(some 38), none, .load 1 false, [.slot 37], none⟩,
 ⟨(some 39), none, .faddr 19, [.slot 3], none⟩,
 ⟨(some 40), none, .faddr 2, [.slot 39], none⟩,
 ⟨(some 41), none, .load 1 false, [.slot 40], none⟩,
 ⟨(some 42), none, .faddr 19, [.slot 3], none⟩,
 ⟨(some 43), none, .faddr 3, [.slot 42], none⟩,
 ⟨(some 44), none, .load 1 false, [.slot 43], none⟩,
 ⟨(some 45), none, .faddr 19, [.slot 3], none⟩,
 ⟨(some 46), none, .faddr 4, [.slot 45], none⟩,
 ⟨(some 47), none, .load 1 false, [.slot 46], none⟩,
 ⟨(some 48), none, .buildSl 1 4 (.str ⟨#[]⟩) [0, 1, 2, 3], [.slot 38, .slot 41, .slot 44, .slot 47], none⟩,
 ⟨(some 49), none, .lensl, [.slot 48], none⟩,
 ⟨(some 50), none, .id, [.val (.int .i64 0)], none⟩])
 (.block 2
 (.loop L1_event_Put)))
 (.seq
 (.region [
 ⟨(some 58), none, .id, [.slot 0], none⟩,
 ⟨(some 59), none, .faddr 24, [.slot 3], none⟩,
 ⟨(some 60), none, .faddr 0, [.slot 59], none⟩,
 ⟨(some 61), none, .load 1 false, [.slot 60], (some (.el))⟩,
 ⟨(some 62), none, .call f_num_Put, [.slot 58, .slot 61], none⟩,
 ⟨(some 63), none, .faddr 24, [.slot 3], none⟩,
 ⟨(some 64), none, .faddr 1, [.slot 63], none⟩,
 ⟨(some 65), none, .load 1 false, [.slot 64], (some (.el))⟩,
 ⟨(some 66), none, .call f_num_Signed, [.slot 62, .slot 65], none⟩,
 ⟨(some 67), none, .faddr 24, [.slot 3], none⟩,
 ⟨(some 68), none, .faddr 2, [.slot 67], none⟩,
 ⟨(some 69), none, .load 1 false, [.slot 68], (some (.el))⟩,
 ⟨(some 70), none, .call f_num_Text, [.slot 66, .slot 69], none⟩,
 ⟨(some 4), none, .id, [.slot 70], none⟩])
 (.ret)))))
def F_event_Put : IFun := ⟨71, [.slot 4], b_event_Put, 6, 0, nofn⟩
theorem c_event_Put : cFun Tryz.prog [3, 4194307] 0 f_event_Put = some F_event_Put := by kernel_rfl

def b_hedgerowref07_Less : ICode :=
 .seq
 (.region [
 ⟨(some 2), none, .boxL, [.slot 0], none⟩,
 ⟨(some 3), none, .boxL, [.slot 1], none⟩,
 ⟨(some 4), none, .id, [.val (.bool false)], none⟩])
 (.seq
 (.seq
 (.region [
 ⟨(some 5), none, .faddr 0, [.slot 2], none⟩,
 ⟨(some 6), none, .load 1 false, [.slot 5], none⟩,
 ⟨(some 7), none, .faddr 0, [.slot 3], none⟩,
 ⟨(some 8), none, .load 1 false, [.slot 7], none⟩,
 ⟨(some 9), none, .bin .neq, [.slot 6, .slot 8], none⟩])
 (.cond (.slot 9)
 (.seq
 (.region [
 ⟨(some 10), none, .faddr 0, [.slot 2], none⟩,
 ⟨(some 11), none, .load 1 false, [.slot 10], none⟩,
 ⟨(some 12), none, .faddr 0, [.slot 3], none⟩,
 ⟨(some 13), none, .load 1 false, [.slot 12], none⟩,
 ⟨(some 14), none, .bin .lss, [.slot 11, .slot 13], none⟩,
 ⟨(some 4), none, .id, [.slot 14], none⟩])
 (.ret))
 (.skip)))
 (.seq
 (.seq
 (.region [
 ⟨(some 15), none, .faddr 1, [.slot 2], none⟩,
 ⟨(some 16), none, .load 1 false, [.slot 15], none⟩,
 ⟨(some 17), none, .faddr 1, [.slot 3], none⟩,
 ⟨(some 18), none, .load 1 false, [.slot 17], none⟩,
 ⟨(some 19), none, .bin .neq, [.slot 16, .slot 18], none⟩])
 (.cond (.slot 19)
 (.seq
 (.region [
 ⟨(some 20), none, .faddr 1, [.slot 2], none⟩,
 ⟨(some 21), none, .load 1 false, [.slot 20], none⟩,
 ⟨(some 22), none, .faddr 1, [.slot 3], none⟩,
 ⟨(some 23), none, .load 1 false, [.slot 22], none⟩,
 ⟨(some 24), none, .bin .lss, [.slot 21, .slot 23], none⟩,
 ⟨(some 4), none, .id, [.slot 24], none⟩])
 (.ret))
 (.skip)))
 (.seq
 (.seq
 (.region [
 ⟨(some 25), none, .faddr 2, [.slot 2], none⟩,
 ⟨(some 26), none, .load 1 false, [.slot 25], none⟩,
 ⟨(some 27), none, .faddr 2, [.slot 3], none⟩,
 ⟨(some 28), none, .load 1 false, [.slot 27], none⟩,
 ⟨(some 29), none, .bin .neq, [.slot 26, .slot 28], none⟩])
 (.cond (.slot 29)
 (.seq
 (.region [
 ⟨(some 30), none, .faddr 2, [.slot 2], none⟩,
 ⟨(some 31), none, .load 1 false, [.slot 30], none⟩,
 ⟨(some 32), none, .faddr 2, [.slot 3], none⟩,
 ⟨(some 33), none, .load 1 false, [.slot 32], none⟩,
 ⟨(some 34), none, .bin .lss, [.slot 31, .slot 33], none⟩,
 ⟨(some 4), none, .id, [.slot 34], none⟩])
 (.ret))
 (.skip)))
 (.seq
 (.seq
 (.region [
 ⟨(some 35), none, .faddr 3, [.slot 2], none⟩,
 ⟨(some 36), none, .load 1 false, [.slot 35], none⟩,
 ⟨(some 37), none, .faddr 3, [.slot 3], none⟩,
 ⟨(some 38), none, .load 1 false, [.slot 37], none⟩,
 ⟨(some 39), none, .bin .neq, [.slot 36, .slot 38], none⟩])
 (.cond (.slot 39)
 (.seq
 (.region [
 ⟨(some 40), none, .faddr 3, [.slot 2], none⟩,
 ⟨(some 41), none, .load 1 false, [.slot 40], none⟩,
 ⟨(some 42), none, .faddr 3, [.slot 3], none⟩,
 ⟨(some 43), none, .load 1 false, [.slot 42], none⟩,
 ⟨(some 44), none, .bin .lss, [.slot 41, .slot 43], none⟩,
 ⟨(some 4), none, .id, [.slot 44], none⟩])
 (.ret))
 (.skip)))
 (.seq
 (.region [
 ⟨(some 45), none, .faddr 4, [.slot 2], none⟩,
 ⟨(some 46), none, .load 1 false, [.slot 45], none⟩,
 ⟨(some 47), none, .faddr 4, [.slot 3], none⟩,
 ⟨(some 48), none, .load 1 false, [.slot 47], none⟩,
 ⟨(some 49), none, .bin .lss, [.slot 46, .slot 48], none⟩,
 ⟨(some 4), none, .id, [.slot 49], none⟩])
 (.ret))))))
def F_hedgerowref07_Less : IFun := ⟨50, [.slot 4], b_hedgerowref07_Less, 6, 0, nofn⟩
theorem c_hedgerowref07_Less : cFun Tryz.prog [1048578, 1048579] 0 f_hedgerowref07_Less = some F_hedgerowref07_Less := by kernel_rfl

def b_hedgerowref06_Change : ICode :=
 .seq
 (.region [
 ⟨(some 1), none, .boxL, [.slot 0], none⟩,
 ⟨(some 2), none, .id, [.val (.bool false)], none⟩])
 (.seq
 (.seq
 (.region [
 ⟨(some 5), none, .faddr 1, [.slot 1], none⟩,
 ⟨(some 6), none, .load 5 true, [.slot 5], none⟩,
 ⟨(some 7), none, .call f_hedgerowref01_Elem, [.slot 6], none⟩,
 ⟨(some 8), none, .un .not, [.slot 7], none⟩])
 (.cond (.slot 8)
 (.seq
 (.region [
 ⟨(some 2), none, .id, [.val (.bool false)], none⟩])
 (.ret))
 (.skip)))
 (.seq
 (.region [
 ⟨(some 9), none, .faddr 1, [.slot 1], none⟩,
 ⟨(some 10), none, .faddr 0, [.slot 9], none⟩,
 ⟨(some 11), none, .load 1 false, [.slot 10], none⟩,
 ⟨(some 12), none, .bin .geq, [.slot 11, .val (.int .i64 4)], none⟩,
 ⟨(some 3), none, .id, [.slot 12], none⟩])
 (.seq
 (.region [
 ⟨(some 13), none, .faddr 6, [.slot 1], none⟩,
 ⟨(some 14), none, .load 3 true, [.slot 13], none⟩,
 ⟨(some 15), none, .build [(.int .i64 0), (.int .i64 0), (.str ⟨#[]⟩)] [], [], none⟩,
 ⟨(some 16), none, .eqv false [(.int .i64), (.int .i64), .str], [.slot 14, .slot 15], none⟩,
 ⟨(some 4), none, .id, [.slot 16], none⟩])
 (.seq
 (.seq
 (.region [
 ⟨(some 17), none, .faddr 0, [.slot 1], none⟩,
 ⟨(some 18), none, .load 1 false, [.slot 17], none⟩])
 (.block 0
 (.seq
 (.seq
 (.region [
 ⟨(some 20), none, .bin .eql, [.slot 18, .val (.int .i64 1)], none⟩,
 ⟨(some 19), none, .id, [.slot 20], none⟩])
 (.cond (.slot 19)
 (.skip)
 (.region [
 ⟨(some 21), none, .bin .eql, [.slot 18, .val (.int .i64 2)], none⟩,
 ⟨(some 19), none, .id, [.slot 21], none⟩])))
 (.cond (.slot 19)
 (.seq
 (.region [
 ⟨(some 22), none, .id, [.slot 3], none⟩,
 ⟨(some 23), none, .un .not, [.slot 22], none⟩,
 ⟨(some 24), none, .id, [.slot 23], none⟩,
 ⟨(some 25), (some (24, true)), .id, [.slot 4], none⟩,
 ⟨(some 26), none, .pick, [.slot 24, .slot 25, .val (.bool false)], none⟩,
 ⟨(some 2), none, .id, [.slot 26], none⟩])
 (.ret))
 (.seq
 (.region [
 ⟨(some 28), none, .bin .eql, [.slot 18, .val (.int .i64 3)], none⟩,
 ⟨(some 27), none, .id, [.slot 28], none⟩])
 (.cond (.slot 27)
 (.seq
 (.region [
 ⟨(some 29), none, .id, [.slot 3], none⟩,
 ⟨(some 30), none, .id, [.slot 29], none⟩,
 ⟨(some 31), (some (30, true)), .faddr 6, [.slot 1], none⟩,
 ⟨(some 32), (some (30, true)), .faddr 0, [.slot 31], none⟩,
 ⟨(some 33), (some (30, true)), .load 1 false, [.slot 32], none⟩,
 ⟨(some 34), (some (30, true)), .bin .geq, [.slot 33, .val (.int .i64 1)], none⟩,
 ⟨(some 35), none, .pick, [.slot 30, .slot 34, .val (.bool false)], none⟩,
 ⟨(some 36), none, .id, [.slot 35], none⟩,
 ⟨(some 37), (some (36, true)), .faddr 6, [.slot 1], none⟩,
 ⟨(some 38), (some (36, true)), .faddr 0, [.slot 37], none⟩,
 ⟨(some 39), (some (36, true)), .load 1 false, [.slot 38], none⟩,
 ⟨(some 40), (some (36, true)), .bin .leq, [.slot 39, .val (.int .i64 3)], none⟩,
 ⟨(some 41), none, .pick, [.slot 36, .slot 40, .val (.bool false)], none⟩,
 ⟨(some 42), none, .id, [.slot 41], none⟩,
 ⟨(some 43), (some (42, true)), .faddr 6, [.slot 1], none⟩,
 ⟨(some 44), (some (42, true)), .load 3 true, [.slot 43], none⟩,
 ⟨(some 45), (some (42, true)), .call f_hedgerowref01_Right, [.slot 44], none⟩,
 ⟨(some 46), none, .pick, [.slot 42, .slot 45, .val (.bool false)], none⟩,
 ⟨(some 2), none, .id, [.slot 46], none⟩])
 (.ret))
 (.seq
 (.region [
 ⟨(some 48), none, .bin .eql, [.slot 18, .val (.int .i64 4)], none⟩,
 ⟨(some 47), none, .id, [.slot 48], none⟩])
 (.cond (.slot 47)
 (.seq
 (.region [
 ⟨(some 49), none, .id, [.slot 3], none⟩,
 ⟨(some 50), none, .id, [.slot 49], none⟩,
 ⟨(some 51), (some (50, true)), .id, [.slot 4], none⟩,
 ⟨(some 52), none, .pick, [.slot 50, .slot 51, .val (.bool false)], none⟩,
 ⟨(some 2), none, .id, [.slot 52], none⟩])
 (.ret))
 (.skip)))))))))
 (.seq
 (.region [
 ⟨(some 2), none, .id, [.val (.bool false)], none⟩])
 (.ret))))))
def F_hedgerowref06_Change : IFun := ⟨53, [.slot 2], b_hedgerowref06_Change, 6, 0, nofn⟩
theorem c_hedgerowref06_Change : cFun Tryz.prog [1048577] 0 f_hedgerowref06_Change = some F_hedgerowref06_Change := by kernel_rfl

def b_hedgerowref07_First : ICode :=
 .seq
 (.region [
 ⟨(some 2), none, .boxL, [.slot 0], none⟩,
 ⟨(some 3), none, .boxL, [.slot 1], none⟩,
 ⟨(some 4), none, .id, [.val (.bool false)], none⟩])
 (.seq
 (.region [
 ⟨(some 5), none, .faddr 0, [.slot 2], none⟩,
 ⟨(some 6), none, .load 1 false, [.slot 5], none⟩,
 ⟨(some 7), none, .faddr 0, [.slot 3], none⟩,
 ⟨(some 8), none, .load 1 false, [.slot 7], none⟩,
 ⟨(some 9), none, .bin .lss, [.slot 6, .slot 8], none⟩,
 ⟨(some 10), none, .id, [.slot 9], none⟩,
 ⟨(some 11), (some (10, false)), .faddr 0, [.slot 2], none⟩,
 ⟨(some 12), (some (10, false)), .load 1 false, [.slot 11], none⟩,
 ⟨(some 13), (some (10, false)), .faddr 0, [.slot 3], none⟩,
 ⟨(some 14), (some (10, false)), .load 1 false, [.slot 13], none⟩,
 ⟨(some 15), (some (10, false)), .bin .eql, [.slot 12, .slot 14], none⟩,
 ⟨(some 16), (some (10, false)), .id, [.slot 15], none⟩,
 ⟨(some 17), (some (16, true)), .faddr 1, [.slot 2], none⟩,
 ⟨(some 18), (some (16, true)), .load 1 false, [.slot 17], none⟩,
 ⟨(some 19), (some (16, true)), .faddr 1, [.slot 3], none⟩,
 ⟨(some 20), (some (16, true)), .load 1 false, [.slot 19], none⟩,
 ⟨(some 21), (some (16, true)), .bin .lss, [.slot 18, .slot 20], none⟩,
 ⟨(some 22), (some (10, false)), .pick, [.slot 16, .slot 21, .val (.bool false)], none⟩,
 ⟨(some 23), none, .pick, [.slot 10, .val (.bool true), .slot 22], none⟩,
 ⟨(some 4), none, .id, [.slot 23], none⟩])
 (.ret))
def F_hedgerowref07_First : IFun := ⟨24, [.slot 4], b_hedgerowref07_First, 6, 0, nofn⟩
theorem c_hedgerowref07_First : cFun Tryz.prog [1048578, 1048579] 0 f_hedgerowref07_First = some F_hedgerowref07_First := by kernel_rfl

def L0_hedgerowref06_Right : ICode :=
 .seq
 (.region [
 ⟨(some 29), none, .bin .lss, [.slot 28, .val (.int .i64 16)], none⟩])
 (.seq
 (.cond (.slot 29)
 (.skip)
 (.exit 0))
 (.seq
 (.block 1
 (.seq
 (.region [
 ⟨(some 30), none, .ixarr 16 1 false, [.slot 27, .slot 28], none⟩,
 ⟨(some 5), none, .id, [.slot 30], none⟩])
 (.seq
 (.region [
 ⟨(some 31), none, .id, [.slot 5], none⟩,
 ⟨(some 32), none, .bin .lss, [.slot 31, .val (.int .i64 0)], none⟩,
 ⟨(some 33), none, .id, [.slot 32], none⟩,
 ⟨(some 34), (some (33, false)), .id, [.slot 5], none⟩,
 ⟨(some 35), (some (33, false)), .bin .gtr, [.slot 34, .val (.int .i64 1048576)], none⟩,
 ⟨(some 36), none, .pick, [.slot 33, .val (.bool true), .slot 35], none⟩])
 (.cond (.slot 36)
 (.seq
 (.region [
 ⟨(some 2), none, .id, [.val (.bool false)], none⟩])
 (.ret))
 (.skip)))))
 (.region [
 ⟨(some 37), none, .bin .add, [.slot 28, .val (.int .i64 1)], none⟩,
 ⟨(some 28), none, .id, [.slot 37], none⟩])))
def b_hedgerowref06_Right : ICode :=
 .seq
 (.region [
 ⟨(some 1), none, .boxL, [.slot 0], none⟩,
 ⟨(some 2), none, .id, [.val (.bool false)], none⟩])
 (.seq
 (.region [
 ⟨(some 6), none, .faddr 0, [.slot 1], none⟩,
 ⟨(some 7), none, .load 2 true, [.slot 6], none⟩,
 ⟨(some 3), none, .allocL [(.int .i64 0), (.int .i64 0)], [], none⟩,
 ⟨none, none, .store 2, [.slot 3, .slot 7], none⟩])
 (.seq
 (.seq
 (.region [
 ⟨(some 8), none, .faddr 0, [.slot 3], none⟩,
 ⟨(some 9), none, .load 1 false, [.slot 8], none⟩,
 ⟨(some 10), none, .bin .lss, [.slot 9, .val (.int .i64 0)], none⟩,
 ⟨(some 11), none, .id, [.slot 10], none⟩,
 ⟨(some 12), (some (11, false)), .faddr 0, [.slot 3], none⟩,
 ⟨(some 13), (some (11, false)), .load 1 false, [.slot 12], none⟩,
 ⟨(some 14), (some (11, false)), .bin .gtr, [.slot 13, .val (.int .i64 15)], none⟩,
 ⟨(some 15), none, .pick, [.slot 11, .val (.bool true), .slot 14], none⟩,
 ⟨(some 16), none, .id, [.slot 15], none⟩,
 ⟨(some 17), (some (16, false)), .faddr 1, [.slot 3], none⟩,
 ⟨(some 18), (some (16, false)), .load 1 false, [.slot 17], none⟩,
 ⟨(some 19), (some (16, false)), .bin .lss, [.slot 18, .val (.int .i64 1)], none⟩,
 ⟨(some 20), none, .pick, [.slot 16, .val (.bool true), .slot 19], none⟩,
 ⟨(some 21), none, .id, [.slot 20], none⟩,
 ⟨(some 22), (some (21, false)), .faddr 1, [.slot 3], none⟩,
 ⟨(some 23), (some (21, false)), .load 1 false, [.slot 22], none⟩,
 ⟨(some 24), (some (21, false)), .bin .gtr, [.slot 23, .val (.int .i64 1048576)], none⟩,
 ⟨(some 25), none, .pick, [.slot 21, .val (.bool true), .slot 24], none⟩])
 (.cond (.slot 25)
 (.seq
 (.region [
 ⟨(some 2), none, .id, [.val (.bool false)], none⟩])
 (.ret))
 (.skip)))
 (.seq
 (.seq
 (.region [
 ⟨(some 26), none, .faddr 2, [.slot 1], none⟩,
 ⟨(some 27), none, .load 16 true, [.slot 26], none⟩,
 ⟨(some 28), none, .id, [.val (.int .i64 0)], none⟩])
 (.block 0
 (.loop L0_hedgerowref06_Right)))
 (.seq
 (.region [
 ⟨(some 38), none, .faddr 0, [.slot 3], none⟩,
 ⟨(some 39), none, .load 1 false, [.slot 38], (some (.loc 3))⟩,
 ⟨(some 40), none, .faddr 2, [.slot 1], none⟩,
 ⟨(some 41), none, .ixaddrA 16 1, [.slot 40, .slot 39], none⟩,
 ⟨(some 42), none, .load 1 false, [.slot 41], (some (.loc 1))⟩,
 ⟨(some 43), none, .faddr 1, [.slot 3], none⟩,
 ⟨(some 44), none, .load 1 false, [.slot 43], (some (.loc 3))⟩,
 ⟨(some 45), none, .bin .sub, [.slot 44, .val (.int .i64 1)], none⟩,
 ⟨(some 46), none, .bin .eql, [.slot 42, .slot 45], none⟩,
 ⟨(some 47), none, .id, [.slot 46], none⟩,
 ⟨(some 48), (some (47, true)), .faddr 18, [.slot 1], none⟩,
 ⟨(some 49), (some (47, true)), .load 1 false, [.slot 48], (some (.loc 1))⟩,
 ⟨(some 50), (some (47, true)), .faddr 19, [.slot 1], none⟩,
 ⟨(some 51), (some (47, true)), .load 5 true, [.slot 50], (some (.loc 1))⟩,
 ⟨(some 52), (some (47, true)), .faddr 24, [.slot 1], none⟩,
 ⟨(some 53), (some (47, true)), .load 3 true, [.slot 52], (some (.loc 1))⟩,
 ⟨(some 54), (some (47, true)), .build [(.int .i64 0), (.int .i64 0), (.str ⟨#[]⟩), (.str ⟨#[]⟩), (.str ⟨#[]⟩), (.str ⟨#[]⟩), (.int .i64 0), (.int .i64 0), (.str ⟨#[]⟩)] [(0, 1), (1, 5), (6, 3)], [.slot 49, .slot 51, .slot 53], none⟩,
 ⟨(some 55), (some (47, true)), .call f_hedgerowref06_Change, [.slot 54], none⟩,
 ⟨(some 56), none, .pick, [.slot 47, .slot 55, .val (.bool false)], none⟩,
 ⟨(some 2), none, .id, [.slot 56], none⟩])
 (.ret)))))
def F_hedgerowref06_Right : IFun := ⟨57, [.slot 2], b_hedgerowref06_Right, 6, 0, nofn⟩
theorem c_hedgerowref06_Right : cFun Tryz.prog [1048577, 1048579] 0 f_hedgerowref06_Right = some F_hedgerowref06_Right := by kernel_rfl

def L0_vector_Right : ICode :=
 .seq
 (.region [
 ⟨(some 7), none, .bin .lss, [.slot 6, .val (.int .i64 16)], none⟩])
 (.seq
 (.cond (.slot 7)
 (.skip)
 (.exit 0))
 (.seq
 (.block 1
 (.seq
 (.region [
 ⟨(some 8), none, .ixarr 16 1 false, [.slot 5, .slot 6], none⟩,
 ⟨(some 4), none, .id, [.slot 8], none⟩])
 (.seq
 (.region [
 ⟨(some 9), none, .id, [.slot 4], none⟩,
 ⟨(some 10), none, .bin .lss, [.slot 9, .val (.int .i64 0)], none⟩,
 ⟨(some 11), none, .id, [.slot 10], none⟩,
 ⟨(some 12), (some (11, false)), .id, [.slot 4], none⟩,
 ⟨(some 13), (some (11, false)), .bin .gtr, [.slot 12, .val (.int .i64 1048576)], none⟩,
 ⟨(some 14), none, .pick, [.slot 11, .val (.bool true), .slot 13], none⟩])
 (.cond (.slot 14)
 (.seq
 (.region [
 ⟨(some 2), none, .id, [.val (.bool false)], none⟩])
 (.ret))
 (.skip)))))
 (.region [
 ⟨(some 15), none, .bin .add, [.slot 6, .val (.int .i64 1)], none⟩,
 ⟨(some 6), none, .id, [.slot 15], none⟩])))
def b_vector_Right : ICode :=
 .seq
 (.region [
 ⟨(some 1), none, .boxL, [.slot 0], none⟩,
 ⟨(some 2), none, .id, [.val (.bool false)], none⟩])
 (.seq
 (.seq
 (.region [
 ⟨(some 5), none, .load 16 true, [.slot 1], none⟩,
 ⟨(some 6), none, .id, [.val (.int .i64 0)], none⟩])
 (.block 0
 (.loop L0_vector_Right)))
 (.seq
 (.region [
 ⟨(some 2), none, .id, [.val (.bool true)], none⟩])
 (.ret)))
def F_vector_Right : IFun := ⟨16, [.slot 2], b_vector_Right, 6, 0, nofn⟩
theorem c_vector_Right : cFun Tryz.prog [1048577] 0 f_vector_Right = some F_vector_Right := by kernel_rfl

def b_snap_item : ICode :=
 .seq
 (.region [
 ⟨(some 2), none, .boxH 23, [.slot 0], none⟩,
 ⟨(some 3), none, .boxL, [.slot 1], none⟩,
 ⟨(some 4), none, .id, [.val (.bool false)], none⟩])
 (.seq
 (.region [
 ⟨(some 6), none, .mkfunc f_snap_item_1 0, [.slot 2], none⟩,
 ⟨(some 5), none, .id, [.slot 6], none⟩])
 (.seq
 (.region [
 ⟨(some 7), none, .faddr 5, [.slot 3], none⟩,
 ⟨(some 8), none, .load 1 false, [.slot 7], (some (.loc 3))⟩,
 ⟨(some 9), none, .lensl, [.slot 8], none⟩,
 ⟨(some 10), none, .bin .gtr, [.slot 9, .val (.int .i64 0)], none⟩,
 ⟨(some 11), none, .id, [.slot 10], none⟩,
 ⟨(some 12), (some (11, true)), .call f_store_New, [], none⟩,
 ⟨(some 13), (some (11, true)), .load 6 true, [.slot 3], (some (.loc 3))⟩,
 ⟨(some 14), (some (11, true)), .call f_store_Store_Put, [.slot 12, .slot 13], none⟩,
 ⟨(some 15), (some (11, true)), .bin .eql, [.slot 14, .val (.int .i64 0)], none⟩,
 ⟨(some 16), none, .pick, [.slot 11, .slot 15, .val (.bool false)], none⟩,
 ⟨(some 17), none, .id, [.slot 16], none⟩,
 ⟨(some 18), (some (17, true)), .faddr 5, [.slot 3], none⟩,
 ⟨(some 19), (some (17, true)), .load 1 false, [.slot 18], (some (.loc 3))⟩,
 ⟨(some 20), (some (17, true)), .id, [.slot 5], none⟩,
 ⟨(some 21), (some (17, true)), .call f_slices_ContainsFuncstore_Entrystore_Entry, [.slot 19, .slot 20], none⟩,
 ⟨(some 22), (some (17, true)), .un .not, [.slot 21], none⟩,
 ⟨(some 23), none, .pick, [.slot 17, .slot 22, .val (.bool false)], none⟩,
 ⟨(some 4), none, .id, [.slot 23], none⟩])
 (.ret)))
def F_snap_item : IFun := ⟨24, [.slot 4], b_snap_item, 6, 1, nofn⟩
theorem c_snap_item : cFun Tryz.prog [2, 1048579] 1 f_snap_item = some F_snap_item := by kernel_rfl

def b_store_Order : ICode :=
 .seq
 (.region [
 ⟨(some 2), none, .boxL, [.slot 0], none⟩,
 ⟨(some 3), none, .boxL, [.slot 1], none⟩,
 ⟨(some 4), none, .id, [.val (.int .i64 0)], none⟩])
 (.seq
 (.region [
 ⟨(some 5), none, .faddr 0, [.slot 2], none⟩,
 ⟨(some 6), none, .load 1 false, [.slot 5], (some (.loc 2))⟩,
 ⟨(some 7), none, .faddr 0, [.slot 3], none⟩,
 ⟨(some 8), none, .load 1 false, [.slot 7], (some (.loc 3))⟩,
 ⟨(some 9), none, .call f_cmp_Compareint, [.slot 6, .slot 8], none⟩,
 ⟨(some 10), none, .faddr 1, [.slot 2], none⟩,
 ⟨(some 11), none, .load 1 false, [.slot 10], (some (.loc 2))⟩,
 ⟨(some 12), none, .faddr 1, [.slot 3], none⟩,
 ⟨(some 13), none, .load 1 false, [.slot 12], (some (.loc 3))⟩,
 ⟨(some 14), none, .call f_cmp_Comparestring, [.slot 11, .slot 13], none⟩,
 ⟨(some 15), none, .faddr 2, [.slot 2], none⟩,
 ⟨(some 16), none, .load 1 false, [.slot 15], (some (.loc 2))⟩,
 ⟨(some 17), none, .faddr 2, [.slot 3], none⟩,
 ⟨(some 18), none, .load 1 false, [.slot 17], (some (.loc 3))⟩,
 ⟨(some 19), none, .call f_cmp_Comparestring, [.slot 16, .slot 18], none⟩,
 ⟨(some 20), none, .faddr 3, [.slot 2], none⟩,
 ⟨(some 21), none, .load 1 false, [.slot 20], (some (.loc 2))⟩,
 ⟨(some 22), none, .faddr 3, [.slot 3], none⟩,
 ⟨(some 23), none, .load 1 false, [.slot 22], (some (.loc 3))⟩,
 ⟨(some 24), none, .call f_cmp_Comparestring, [.slot 21, .slot 23], none⟩,
 ⟨(some 25), none, .faddr 4, [.slot 2], none⟩,
 ⟨(some 26), none, .load 1 false, [.slot 25], (some (.loc 2))⟩,
 ⟨(some 27), none, .faddr 4, [.slot 3], none⟩,
 ⟨(some 28), none, .load 1 false, [.slot 27], (some (.loc 3))⟩,
 ⟨(some 29), none, .call f_cmp_Comparestring, [.slot 26, .slot 28], none⟩,
 ⟨(some 30), none, .buildSl 1 5 (.int .i64 0) [0, 1, 2, 3, 4], [.slot 9, .slot 14, .slot 19, .slot 24, .slot 29], none⟩,
 ⟨(some 31), none, .call f_cmp_Orint, [.slot 30], none⟩,
 ⟨(some 4), none, .id, [.slot 31], none⟩])
 (.ret))
def F_store_Order : IFun := ⟨32, [.slot 4], b_store_Order, 6, 0, nofn⟩
theorem c_store_Order : cFun Tryz.prog [1048578, 1048579] 0 f_store_Order = some F_store_Order := by kernel_rfl

def b_event_Right : ICode :=
 .seq
 (.region [
 ⟨(some 1), none, .boxL, [.slot 0], none⟩,
 ⟨(some 2), none, .id, [.val (.int .i64 0)], none⟩])
 (.seq
 (.seq
 (.region [
 ⟨(some 3), none, .faddr 2, [.slot 1], none⟩,
 ⟨(some 4), none, .load 16 true, [.slot 3], none⟩,
 ⟨(some 5), none, .faddr 0, [.slot 1], none⟩,
 ⟨(some 6), none, .load 2 true, [.slot 5], none⟩,
 ⟨(some 7), none, .call f_vector_Next, [.slot 4, .slot 6], none⟩,
 ⟨(some 8), none, .un .not, [.slot 7], none⟩,
 ⟨(some 9), none, .id, [.slot 8], none⟩,
 ⟨(some 10), (some (9, false)), .faddr 2, [.slot 1], none⟩,
 ⟨(some 11), (some (9, false)), .load 16 true, [.slot 10], none⟩,
 ⟨(some 12), (some (9, false)), .call f_vector_Right, [.slot 11], none⟩,
 ⟨(some 13), (some (9, false)), .un .not, [.slot 12], none⟩,
 ⟨(some 14), none, .pick, [.slot 9, .val (.bool true), .slot 13], none⟩])
 (.cond (.slot 14)
 (.seq
 (.region [
 ⟨(some 2), none, .id, [.val (.int .i64 1)], none⟩])
 (.ret))
 (.skip)))
 (.seq
 (.region [
 ⟨(some 15), none, .load 27 true, [.slot 1], none⟩,
 ⟨(some 16), none, .call f_event_Of, [.slot 15], none⟩,
 ⟨(some 17), none, .call f_event_Change, [.slot 16], none⟩,
 ⟨(some 2), none, .id, [.slot 17], none⟩])
 (.ret)))
def F_event_Right : IFun := ⟨18, [.slot 2], b_event_Right, 6, 0, nofn⟩
theorem c_event_Right : cFun Tryz.prog [1048577] 0 f_event_Right = some F_event_Right := by kernel_rfl

def b_vector_Knows : ICode :=
 .seq
 (.region [
 ⟨(some 2), none, .boxL, [.slot 0], none⟩,
 ⟨(some 3), none, .boxL, [.slot 1], none⟩,
 ⟨(some 4), none, .id, [.val (.bool false)], none⟩])
 (.seq
 (.region [
 ⟨(some 5), none, .load 2 true, [.slot 3], (some (.loc 3))⟩,
 ⟨(some 6), none, .call f_vector_Dot, [.slot 5], none⟩,
 ⟨(some 7), none, .id, [.slot 6], none⟩,
 ⟨(some 8), (some (7, true)), .faddr 0, [.slot 3], none⟩,
 ⟨(some 9), (some (7, true)), .load 1 false, [.slot 8], (some (.loc 3))⟩,
 ⟨(some 10), (some (7, true)), .ixaddrA 16 1, [.slot 2, .slot 9], none⟩,
 ⟨(some 11), (some (7, true)), .load 1 false, [.slot 10], (some (.loc 2))⟩,
 ⟨(some 12), (some (7, true)), .faddr 1, [.slot 3], none⟩,
 ⟨(some 13), (some (7, true)), .load 1 false, [.slot 12], (some (.loc 3))⟩,
 ⟨(some 14), (some (7, true)), .bin .geq, [.slot 11, .slot 13], none⟩,
 ⟨(some 15), none, .pick, [.slot 7, .slot 14, .val (.bool false)], none⟩,
 ⟨(some 4), none, .id, [.slot 15], none⟩])
 (.ret))
def F_vector_Knows : IFun := ⟨16, [.slot 4], b_vector_Knows, 6, 0, nofn⟩
theorem c_vector_Knows : cFun Tryz.prog [1048578, 1048579] 0 f_vector_Knows = some F_vector_Knows := by kernel_rfl

def b_num_Read : ICode :=
 .seq
 (.region [
 ⟨(some 2), none, .id, [.val .nilptr], none⟩])
 (.seq
 (.region [
 ⟨(some 3), none, .id, [.slot 0], none⟩,
 ⟨(some 4), none, .build [.nilsl, (.bool false)] [(0, 1)], [.slot 3], none⟩,
 ⟨(some 5), none, .boxH 192, [.slot 4], none⟩,
 ⟨(some 2), none, .id, [.slot 5], none⟩])
 (.ret))
def F_num_Read : IFun := ⟨6, [.slot 2], b_num_Read, 6, 0, nofn⟩
theorem c_num_Read : cFun Tryz.prog [5] 0 f_num_Read = some F_num_Read := by kernel_rfl

def b_num_Reader_Num : ICode :=
 .seq
 (.region [
 ⟨(some 4), none, .id, [.val (.int .i64 0)], none⟩])
 (.seq
 (.seq
 (.region [
 ⟨(some 7), none, .id, [.slot 0], none⟩,
 ⟨(some 8), none, .call f_num_Reader_Fail, [.slot 7], none⟩])
 (.cond (.slot 8)
 (.seq
 (.region [
 ⟨(some 4), none, .id, [.val (.int .i64 0)], none⟩])
 (.ret))
 (.skip)))
 (.seq
 (.region [
 ⟨(some 10), none, .id, [.slot 0], none⟩,
 ⟨(some 11), none, .nilchk, [.slot 10], none⟩,
 ⟨(some 12), none, .faddr 0, [.slot 11], none⟩,
 ⟨(some 13), none, .load 1 false, [.slot 12], none⟩,
 ⟨(some 14), none, .call f_num_take, [.slot 13], none⟩,
 ⟨(some 9), none, .id, [.slot 14], none⟩,
 ⟨(some 15), none, .extract 0, [.slot 9], none⟩,
 ⟨(some 16), none, .extract 1, [.slot 9], none⟩,
 ⟨(some 5), none, .id, [.slot 15], none⟩,
 ⟨(some 6), none, .id, [.slot 16], none⟩])
 (.seq
 (.seq
 (.region [
 ⟨(some 17), none, .id, [.slot 6], none⟩,
 ⟨(some 18), none, .bin .eql, [.slot 17, .val (.int .i64 0)], none⟩,
 ⟨(some 19), none, .id, [.slot 18], none⟩,
 ⟨(some 20), (some (19, false)), .id, [.slot 5], none⟩,
 ⟨(some 21), (some (19, false)), .id, [.slot 1], none⟩,
 ⟨(some 22), (some (19, false)), .bin .gtr, [.slot 20, .slot 21], none⟩,
 ⟨(some 23), none, .pick, [.slot 19, .val (.bool true), .slot 22], none⟩])
 (.cond (.slot 23)
 (.seq
 (.region [
 ⟨(some 24), none, .id, [.slot 0], none⟩,
 ⟨(some 25), none, .nilchk, [.slot 24], none⟩,
 ⟨(some 26), none, .faddr 1, [.slot 25], none⟩,
 ⟨none, none, .store 1, [.slot 26, .val (.bool true)], none⟩])
 (.seq
 (.region [
 ⟨(some 4), none, .id, [.val (.int .i64 0)], none⟩])
 (.ret)))
 (.skip)))
 (.seq
 (.region [
 ⟨(some 27), none, .id, [.slot 0], none⟩,
 ⟨(some 28), none, .id, [.slot 0], none⟩,
 ⟨(some 29), none, .nilchk, [.slot 28], none⟩,
 ⟨(some 30), none, .faddr 0, [.slot 29], none⟩,
 ⟨(some 31), none, .load 1 false, [.slot 30], none⟩,
 ⟨(some 32), none, .id, [.slot 6], none⟩,
 ⟨(some 33), none, .slsl 1 true false false, [.slot 31, .slot 32], none⟩,
 ⟨(some 34), none, .nilchk, [.slot 27], none⟩,
 ⟨(some 35), none, .faddr 0, [.slot 34], none⟩,
 ⟨none, none, .store 1, [.slot 35, .slot 33], none⟩])
 (.seq
 (.region [
 ⟨(some 36), none, .id, [.slot 5], none⟩,
 ⟨(some 4), none, .id, [.slot 36], none⟩])
 (.ret))))))
def F_num_Reader_Num : IFun := ⟨37, [.slot 4], b_num_Reader_Num, 6, 0, nofn⟩
theorem c_num_Reader_Num : cFun Tryz.prog [2097244] 0 f_num_Reader_Num = some F_num_Reader_Num := by kernel_rfl

def L0_snap_rowsstore_Item : ICode :=
 .seq
 (.region [
 ⟨(some 9), none, .bin .lss, [.slot 8, .slot 7], none⟩])
 (.seq
 (.cond (.slot 9)
 (.skip)
 (.exit 0))
 (.seq
 (.block 1
 (.seq
 (.region [
 ⟨(some 10), none, .id, [.slot 5], none⟩,
 ⟨(some 11), none, .id, [.slot 1], none⟩,
 ⟨(some 12), none, .id, [.slot 0], none⟩,
 ⟨(some 13), none, .callv, [.slot 11, .slot 12], none⟩,
 ⟨(some 14), none, .buildSl 6 1 (.agg [(.int .i64 0), (.str ⟨#[]⟩), (.str ⟨#[]⟩), (.str ⟨#[]⟩), (.str ⟨#[]⟩), .nilsl]) [0], [.slot 13], none⟩,
 ⟨(some 15), none, .append 67 6 96, [.slot 10, .slot 14], none⟩,
 ⟨(some 5), none, .id, [.slot 15], none⟩])
 (.seq
 (.region [
 ⟨(some 16), none, .id, [.slot 0], none⟩,
 ⟨(some 17), none, .call f_num_Reader_Fail, [.slot 16], none⟩])
 (.cond (.slot 17)
 (.seq
 (.region [
 ⟨(some 4), none, .id, [.val .nilsl], none⟩])
 (.ret))
 (.skip)))))
 (.region [
 ⟨(some 18), none, .bin .add, [.slot 8, .val (.int .i64 1)], none⟩,
 ⟨(some 8), none, .id, [.slot 18], none⟩])))
def b_snap_rowsstore_Item : ICode :=
 .seq
 (.region [
 ⟨(some 4), none, .id, [.val .nilsl], none⟩])
 (.seq
 (.region [
 ⟨(some 5), none, .id, [.val .nilsl], none⟩])
 (.seq
 (.seq
 (.region [
 ⟨(some 6), none, .id, [.slot 0], none⟩,
 ⟨(some 7), none, .call f_num_Reader_Num, [.slot 6, .val (.int .i64 100000)], none⟩,
 ⟨(some 8), none, .id, [.val (.int .i64 0)], none⟩])
 (.block 0
 (.loop L0_snap_rowsstore_Item)))
 (.seq
 (.region [
 ⟨(some 19), none, .id, [.slot 5], none⟩,
 ⟨(some 4), none, .id, [.slot 19], none⟩])
 (.ret))))
def F_snap_rowsstore_Item : IFun := ⟨20, [.slot 4], b_snap_rowsstore_Item, 6, 0, nofn⟩
theorem c_snap_rowsstore_Item : cFun Tryz.prog [2097244] 0 f_snap_rowsstore_Item = some F_snap_rowsstore_Item := by kernel_rfl

def L0_snap_readItem : ICode :=
 .seq
 (.region [
 ⟨(some 20), none, .bin .lss, [.slot 19, .slot 18], none⟩])
 (.seq
 (.cond (.slot 20)
 (.skip)
 (.exit 0))
 (.seq
 (.block 1
 (.seq
 (.region [
 ⟨(some 21), none, .ixaddr 1, [.slot 17, .slot 19], none⟩,
 ⟨(some 22), none, .load 1 false, [.slot 21], none⟩,
 ⟨(some 4), none, .id, [.slot 22], none⟩])
 (.region [
 ⟨(some 23), none, .id, [.slot 4], none⟩,
 ⟨(some 24), none, .id, [.slot 0], none⟩,
 ⟨(some 25), none, .call f_num_Reader_Text, [.slot 24, .val (.int .i64 1048576)], none⟩,
 ⟨(some 26), none, .nilchk, [.slot 23], none⟩,
 ⟨none, none, .store 1, [.slot 26, .slot 25], none⟩])))
 (.region [
 ⟨(some 27), none, .bin .add, [.slot 19, .val (.int .i64 1)], none⟩,
 ⟨(some 19), none, .id, [.slot 27], none⟩])))
def b_snap_readItem : ICode :=
 .seq
 (.region [
 ⟨(some 2), none, .allocH 67 [(.int .i64 0), (.str ⟨#[]⟩), (.str ⟨#[]⟩), (.str ⟨#[]⟩), (.str ⟨#[]⟩), .nilsl], [], none⟩])
 (.seq
 (.region [
 ⟨(some 5), none, .id, [.slot 0], none⟩,
 ⟨(some 6), none, .call f_num_Reader_Num, [.slot 5, .val (.int .i64 4611686018427387903)], none⟩,
 ⟨(some 7), none, .faddr 0, [.slot 2], none⟩,
 ⟨(some 8), none, .faddr 0, [.slot 7], none⟩,
 ⟨none, none, .store 1, [.slot 8, .slot 6], none⟩])
 (.seq
 (.seq
 (.region [
 ⟨(some 9), none, .faddr 0, [.slot 2], none⟩,
 ⟨(some 10), none, .faddr 1, [.slot 9], none⟩,
 ⟨(some 11), none, .faddr 0, [.slot 2], none⟩,
 ⟨(some 12), none, .faddr 2, [.slot 11], none⟩,
 ⟨(some 13), none, .faddr 0, [.slot 2], none⟩,
 ⟨(some 14), none, .faddr 3, [.slot 13], none⟩,
 ⟨(some 15), none, .faddr 0, [.slot 2], none⟩,
 ⟨(some 16), none, .faddr 4, [.slot 15], none⟩,
 ⟨(some 17), none, .buildSl 1 4 .nilptr [0, 1, 2, 3], [.slot 10, .slot 12, .slot 14, .slot 16], none⟩,
 ⟨(some 18), none, .lensl, [.slot 17], none⟩,
 ⟨(some 19), none, .id, [.val (.int .i64 0)], none⟩])
 (.block 0
 (.loop L0_snap_readItem)))
 (.seq
 (.region [
 ⟨(some 28), none, .id, [.slot 0], none⟩,
 ⟨(some 29), none, .call f_snap_rowsstore_Entry, [.slot 28, .val (.func 150 [] [])], none⟩,
 ⟨(some 30), none, .faddr 5, [.slot 2], none⟩,
 ⟨none, none, .store 1, [.slot 30, .slot 29], none⟩])
 (.seq
 (.region [
 ⟨(some 31), none, .load 6 true, [.slot 2], none⟩,
 ⟨none, none, .store 6, [.slot 2, .slot 31], none⟩])
 (.ret)))))
def F_snap_readItem : IFun := ⟨32, [.cell 2 6 true], b_snap_readItem, 6, 0, nofn⟩
theorem c_snap_readItem : cFun Tryz.prog [2] 0 f_snap_readItem = some F_snap_readItem := by kernel_rfl

def L0_snap_rowsapi_Event : ICode :=
 .seq
 (.region [
 ⟨(some 9), none, .bin .lss, [.slot 8, .slot 7], none⟩])
 (.seq
 (.cond (.slot 9)
 (.skip)
 (.exit 0))
 (.seq
 (.block 1
 (.seq
 (.region [
 ⟨(some 10), none, .id, [.slot 5], none⟩,
 ⟨(some 11), none, .id, [.slot 1], none⟩,
 ⟨(some 12), none, .id, [.slot 0], none⟩,
 ⟨(some 13), none, .callv, [.slot 11, .slot 12], none⟩,
 ⟨(some 14), none, .buildSl 27 1 (.agg [(.int .i64 0), (.int .i64 0), (.int .i64 0), (.int .i64 0), (.int .i64 0), (.int .i64 0), (.int .i64 0), (.int .i64 0), (.int .i64 0), (.int .i64 0), (.int .i64 0), (.int .i64 0), (.int .i64 0), (.int .i64 0), (.int .i64 0), (.int .i64 0), (.int .i64 0), (.int .i64 0), (.int .i64 0), (.int .i64 0), (.str ⟨#[]⟩), (.str ⟨#[]⟩), (.str ⟨#[]⟩), (.str ⟨#[]⟩), (.int .i64 0), (.int .i64 0), (.str ⟨#[]⟩)]) [0], [.slot 13], none⟩,
 ⟨(some 15), none, .append 49 27 256, [.slot 10, .slot 14], none⟩,
 ⟨(some 5), none, .id, [.slot 15], none⟩])
 (.seq
 (.region [
 ⟨(some 16), none, .id, [.slot 0], none⟩,
 ⟨(some 17), none, .call f_num_Reader_Fail, [.slot 16], none⟩])
 (.cond (.slot 17)
 (.seq
 (.region [
 ⟨(some 4), none, .id, [.val .nilsl], none⟩])
 (.ret))
 (.skip)))))
 (.region [
 ⟨(some 18), none, .bin .add, [.slot 8, .val (.int .i64 1)], none⟩,
 ⟨(some 8), none, .id, [.slot 18], none⟩])))
def b_snap_rowsapi_Event : ICode :=
 .seq
 (.region [
 ⟨(some 4), none, .id, [.val .nilsl], none⟩])
 (.seq
 (.region [
 ⟨(some 5), none, .id, [.val .nilsl], none⟩])
 (.seq
 (.seq
 (.region [
 ⟨(some 6), none, .id, [.slot 0], none⟩,
 ⟨(some 7), none, .call f_num_Reader_Num, [.slot 6, .val (.int .i64 100000)], none⟩,
 ⟨(some 8), none, .id, [.val (.int .i64 0)], none⟩])
 (.block 0
 (.loop L0_snap_rowsapi_Event)))
 (.seq
 (.region [
 ⟨(some 19), none, .id, [.slot 5], none⟩,
 ⟨(some 4), none, .id, [.slot 19], none⟩])
 (.ret))))
def F_snap_rowsapi_Event : IFun := ⟨20, [.slot 4], b_snap_rowsapi_Event, 6, 0, nofn⟩
theorem c_snap_rowsapi_Event : cFun Tryz.prog [2097244] 0 f_snap_rowsapi_Event = some F_snap_rowsapi_Event := by kernel_rfl

def b_snap_Parse_1 : ICode :=
 .seq
 (.region [
 ⟨(some 3), none, .allocL [(.int .i64 0), (.int .i64 0), (.int .i64 0), (.int .i64 0), (.int .i64 0), (.int .i64 0), (.int .i64 0), (.int .i64 0), (.int .i64 0), (.int .i64 0), (.int .i64 0), (.int .i64 0), (.int .i64 0), (.int .i64 0), (.int .i64 0), (.int .i64 0), (.int .i64 0), (.int .i64 0), (.int .i64 0), (.int .i64 0), (.str ⟨#[]⟩), (.str ⟨#[]⟩), (.str ⟨#[]⟩), (.str ⟨#[]⟩), (.int .i64 0), (.int .i64 0), (.str ⟨#[]⟩)], [], none⟩])
 (.seq
 (.region [
 ⟨(some 7), none, .id, [.slot 0], none⟩,
 ⟨(some 8), none, .call f_event_Read, [.slot 7], none⟩,
 ⟨(some 6), none, .id, [.slot 8], none⟩,
 ⟨(some 9), none, .extract 0, [.slot 6], none⟩,
 ⟨(some 10), none, .extract 1, [.slot 6], none⟩,
 ⟨(some 4), none, .allocL [(.int .i64 0), (.int .i64 0), (.int .i64 0), (.int .i64 0), (.int .i64 0), (.int .i64 0), (.int .i64 0), (.int .i64 0), (.int .i64 0), (.int .i64 0), (.int .i64 0), (.int .i64 0), (.int .i64 0), (.int .i64 0), (.int .i64 0), (.int .i64 0), (.int .i64 0), (.int .i64 0), (.int .i64 0), (.int .i64 0), (.str ⟨#[]⟩), (.str ⟨#[]⟩), (.str ⟨#[]⟩), (.str ⟨#[]⟩), (.int .i64 0), (.int .i64 0), (.str ⟨#[]⟩)], [], none⟩,
 ⟨none, none, .store 27, [.slot 4, .slot 9], none⟩,
 ⟨(some 5), none, .id, [.slot 10], none⟩])
 (.seq
 (.region [
 ⟨(some 11), none, .load 1 false, [.slot 1], none⟩,
 ⟨(some 12), none, .id, [.slot 11], none⟩,
 ⟨(some 13), (some (12, false)), .id, [.slot 5], none⟩,
 ⟨(some 14), (some (12, false)), .un .not, [.slot 13], none⟩,
 ⟨(some 15), (some (12, false)), .id, [.slot 14], none⟩,
 ⟨(some 16), (some (15, true)), .id, [.slot 0], none⟩,
 ⟨(some 17), (some (15, true)), .call f_num_Reader_Fail, [.slot 16], none⟩,
 ⟨(some 18), (some (15, true)), .un .not, [.slot 17], none⟩,
 ⟨(some 19), (some (12, false)), .pick, [.slot 15, .slot 18, .val (.bool false)], none⟩,
 ⟨(some 20), none, .pick, [.slot 12, .val (.bool true), .slot 19], none⟩,
 ⟨none, none, .store 1, [.slot 1, .slot 20], none⟩])
 (.seq
 (.region [
 ⟨(some 21), none, .load 27 true, [.slot 4], none⟩,
 ⟨none, none, .store 27, [.slot 3, .slot 21], none⟩])
 (.ret))))
def F_snap_Parse_1 : IFun := ⟨22, [.cell 3 27 true], b_snap_Parse_1, 6, 0, nofn⟩
theorem c_snap_Parse_1 : cFun Tryz.prog [1048579, 1048580, 2097244] 0 f_snap_Parse_1 = some F_snap_Parse_1 := by kernel_rfl

def b_event_Read : ICode :=
 .seq
 (.region [
 ⟨(some 2), none, .allocL [(.int .i64 0), (.int .i64 0), (.int .i64 0), (.int .i64 0), (.int .i64 0), (.int .i64 0), (.int .i64 0), (.int .i64 0), (.int .i64 0), (.int .i64 0), (.int .i64 0), (.int .i64 0), (.int .i64 0), (.int .i64 0), (.int .i64 0), (.int .i64 0), (.int .i64 0), (.int .i64 0), (.int .i64 0), (.int .i64 0), (.str ⟨#[]⟩), (.str ⟨#[]⟩), (.str ⟨#[]⟩), (.str ⟨#[]⟩), (.int .i64 0), (.int .i64 0), (.str ⟨#[]⟩)], [], none⟩,
 ⟨(some 3), none, .id, [.val (.bool false)], none⟩])
 (.seq
 (.region [
 ⟨(some 5), none, .id, [.slot 0], none⟩,
 ⟨(some 6), none, .call f_event_next, [.slot 5], none⟩,
 ⟨(some 4), none, .allocL [(.int .i64 0), (.int .i64 0), (.int .i64 0), (.int .i64 0), (.int .i64 0), (.int .i64 0), (.int .i64 0), (.int .i64 0), (.int .i64 0), (.int .i64 0), (.int .i64 0), (.int .i64 0), (.int .i64 0), (.int .i64 0), (.int .i64 0), (.int .i64 0), (.int .i64 0), (.int .i64 0), (.int .i64 0), (.int .i64 0), (.str ⟨#[]⟩), (.str ⟨#[]⟩), (.str ⟨#[]⟩), (.str ⟨#[]⟩), (.int .i64 0), (.int .i64 0), (.str ⟨#[]⟩)], [], none⟩,
 ⟨none, none, .store 27, [.slot 4, .slot 6], none⟩])
 (.seq
 (.seq
 (.region [
 ⟨(some 7), none, .id, [.slot 0], none⟩,
 ⟨(some 8), none, .call f_num_Reader_Fail, [.slot 7], none⟩,
 ⟨(some 9), none, .id, [.slot 8], none⟩,
 ⟨(some 10), (some (9, false)), .load 27 true, [.slot 4], none⟩,
 ⟨(some 11), (some (9, false)), .call f_event_Right, [.slot 10], none⟩,
 ⟨(some 12), (some (9, false)), .bin .neq, [.slot 11, .val (.int .i64 0)], none⟩,
 ⟨(some 13), none, .pick, [.slot 9, .val (.bool true), .slot 12], none⟩])
 (.cond (.slot 13)
 (.seq
 (.region [
 ⟨(some 14), none, .build [(.int .i64 0), (.int .i64 0), (.int .i64 0), (.int .i64 0), (.int .i64 0), (.int .i64 0), (.int .i64 0), (.int .i64 0), (.int .i64 0), (.int .i64 0), (.int .i64 0), (.int .i64 0), (.int .i64 0), (.int .i64 0), (.int .i64 0), (.int .i64 0), (.int .i64 0), (.int .i64 0), (.int .i64 0), (.int .i64 0), (.str ⟨#[]⟩), (.str ⟨#[]⟩), (.str ⟨#[]⟩), (.str ⟨#[]⟩), (.int .i64 0), (.int .i64 0), (.str ⟨#[]⟩)] [], [], none⟩,
 ⟨none, none, .store 27, [.slot 2, .slot 14], none⟩,
 ⟨(some 3), none, .id, [.val (.bool false)], none⟩])
 (.ret))
 (.skip)))
 (.seq
 (.region [
 ⟨(some 15), none, .load 27 true, [.slot 4], none⟩,
 ⟨none, none, .store 27, [.slot 2, .slot 15], none⟩,
 ⟨(some 3), none, .id, [.val (.bool true)], none⟩])
 (.ret))))
def F_event_Read : IFun := ⟨16, [.cell 2 27 true, .slot 3], b_event_Read, 6, 0, nofn⟩
theorem c_event_Read : cFun Tryz.prog [1048578, 1048580, 2097244] 0 f_event_Read = some F_event_Read := by kernel_rfl

def b_num_Reader_Fail : ICode :=
 .seq
 (.region [
 ⟨(some 2), none, .id, [.val (.bool false)], none⟩])
 (.seq
 (.region [
 ⟨(some 3), none, .id, [.slot 0], none⟩,
 ⟨(some 4), none, .eq1 false .ptr, [.slot 3, .val .nilptr], none⟩,
 ⟨(some 5), none, .id, [.slot 4], none⟩,
 ⟨(some 6), (some (5, false)), .id, [.slot 0], none⟩,
 ⟨(some 7), (some (5, false)), .nilchk, [.slot 6], none⟩,
 ⟨(some 8), (some (5, false)), .faddr 1, [.slot 7], none⟩,
 ⟨(some 9), (some (5, false)), .load 1 false, [.slot 8], none⟩,
 ⟨(some 10), none, .pick, [.slot 5, .val (.bool true), .slot 9], none⟩,
 ⟨(some 2), none, .id, [.slot 10], none⟩])
 (.ret))
def F_num_Reader_Fail : IFun := ⟨11, [.slot 2], b_num_Reader_Fail, 6, 1, nofn⟩
theorem c_num_Reader_Fail : cFun Tryz.prog [] 1 f_num_Reader_Fail = some F_num_Reader_Fail := by kernel_rfl

def b_num_Reader_Done : ICode :=
 .seq
 (.region [
 ⟨(some 2), none, .id, [.val (.bool false)], none⟩])
 (.seq
 (.region [
 ⟨(some 3), none, .id, [.slot 0], none⟩,
 ⟨(some 4), none, .call f_num_Reader_Fail, [.slot 3], none⟩,
 ⟨(some 5), none, .un .not, [.slot 4], none⟩,
 ⟨(some 6), none, .id, [.slot 5], none⟩,
 ⟨(some 7), (some (6, true)), .id, [.slot 0], none⟩,
 ⟨(some 8), (some (6, true)), .nilchk, [.slot 7], none⟩,
 ⟨(some 9), (some (6, true)), .faddr 0, [.slot 8], none⟩,
 ⟨(some 10), (some (6, true)), .load 1 false, [.slot 9], none⟩,
 ⟨(some 11), (some (6, true)), .lensl, [.slot 10], none⟩,
 ⟨(some 12), (some (6, true)), .bin .eql, [.slot 11, .val (.int .i64 0)], none⟩,
 ⟨(some 13), none, .pick, [.slot 6, .slot 12, .val (.bool false)], none⟩,
 ⟨(some 2), none, .id, [.slot 13], none⟩])
 (.ret))
def F_num_Reader_Done : IFun := ⟨14, [.slot 2], b_num_Reader_Done, 6, 1, nofn⟩
theorem c_num_Reader_Done : cFun Tryz.prog [2097244] 1 f_num_Reader_Done = some F_num_Reader_Done := by kernel_rfl

def L0_hedgerowref02_Put : ICode :=
 .seq
 (.seq
 (.region [
 ⟨(some 16), none, .id, [.slot 1], none⟩,
 ⟨(some 17), none, .bin .gtr, [.slot 16, .val (.int .i64 127)], none⟩])
 (.cond (.slot 17)
 (.skip)
 (.exit 0)))
 (.block 1
 (.seq
 (.region [
 ⟨(some 18), none, .id, [.slot 5], none⟩,
 ⟨(some 19), none, .id, [.slot 1], none⟩,
 ⟨(some 20), none, .bin .rem, [.slot 19, .val (.int .i64 128)], none⟩,
 ⟨(some 21), none, .bin .add, [.slot 20, .val (.int .i64 128)], none⟩,
 ⟨(some 22), none, .conv .u8, [.slot 21], none⟩,
 ⟨(some 23), none, .buildSl 1 1 (.int .u8 0) [0], [.slot 22], none⟩,
 ⟨(some 24), none, .append 5 1 1, [.slot 18, .slot 23], none⟩,
 ⟨(some 5), none, .id, [.slot 24], none⟩])
 (.region [
 ⟨(some 25), none, .id, [.slot 1], none⟩,
 ⟨(some 26), none, .bin .quo, [.slot 25, .val (.int .i64 128)], none⟩,
 ⟨(some 1), none, .id, [.slot 26], none⟩])))
def b_hedgerowref02_Put : ICode :=
 .seq
 (.region [
 ⟨(some 4), none, .id, [.val .nilsl], none⟩])
 (.seq
 (.seq
 (.region [
 ⟨(some 6), none, .id, [.slot 1], none⟩,
 ⟨(some 7), none, .bin .lss, [.slot 6, .val (.int .i64 0)], none⟩,
 ⟨(some 8), none, .id, [.slot 7], none⟩,
 ⟨(some 9), (some (8, false)), .id, [.slot 1], none⟩,
 ⟨(some 10), (some (8, false)), .bin .geq, [.slot 9, .val (.int .i64 4611686018427387904)], none⟩,
 ⟨(some 11), none, .pick, [.slot 8, .val (.bool true), .slot 10], none⟩])
 (.cond (.slot 11)
 (.seq
 (.region [
 ⟨(some 12), none, .id, [.slot 0], none⟩,
 ⟨(some 4), none, .id, [.slot 12], none⟩])
 (.ret))
 (.skip)))
 (.seq
 (.region [
 ⟨(some 13), none, .buildSl 1 0 (.int .u8 0) [], [], none⟩,
 ⟨(some 14), none, .id, [.slot 0], none⟩,
 ⟨(some 15), none, .append 5 1 1, [.slot 13, .slot 14], none⟩,
 ⟨(some 5), none, .id, [.slot 15], none⟩])
 (.seq
 (.block 0
 (.loop L0_hedgerowref02_Put))
 (.seq
 (.region [
 ⟨(some 27), none, .id, [.slot 5], none⟩,
 ⟨(some 28), none, .id, [.slot 1], none⟩,
 ⟨(some 29), none, .conv .u8, [.slot 28], none⟩,
 ⟨(some 30), none, .buildSl 1 1 (.int .u8 0) [0], [.slot 29], none⟩,
 ⟨(some 31), none, .append 5 1 1, [.slot 27, .slot 30], none⟩,
 ⟨(some 4), none, .id, [.slot 31], none⟩])
 (.ret)))))
def F_hedgerowref02_Put : IFun := ⟨32, [.slot 4], b_hedgerowref02_Put, 6, 0, nofn⟩
theorem c_hedgerowref02_Put : cFun Tryz.prog [] 0 f_hedgerowref02_Put = some F_hedgerowref02_Put := by kernel_rfl

def b_hedgerowref02_Text : ICode :=
 .seq
 (.region [
 ⟨(some 4), none, .id, [.val .nilsl], none⟩])
 (.seq
 (.region [
 ⟨(some 5), none, .id, [.slot 0], none⟩,
 ⟨(some 6), none, .id, [.slot 1], none⟩,
 ⟨(some 7), none, .lenstr, [.slot 6], none⟩,
 ⟨(some 8), none, .call f_hedgerowref02_Put, [.slot 5, .slot 7], none⟩,
 ⟨(some 9), none, .id, [.slot 1], none⟩,
 ⟨(some 10), none, .appendS 5, [.slot 8, .slot 9], none⟩,
 ⟨(some 4), none, .id, [.slot 10], none⟩])
 (.ret))
def F_hedgerowref02_Text : IFun := ⟨11, [.slot 4], b_hedgerowref02_Text, 6, 0, nofn⟩
theorem c_hedgerowref02_Text : cFun Tryz.prog [] 0 f_hedgerowref02_Text = some F_hedgerowref02_Text := by kernel_rfl

def b_hedgerowref02_Signed : ICode :=
 .seq
 (.region [
 ⟨(some 4), none, .id, [.val .nilsl], none⟩])
 (.seq
 (.seq
 (.region [
 ⟨(some 5), none, .id, [.slot 1], none⟩,
 ⟨(some 6), none, .bin .lss, [.slot 5, .val (.int .i64 (-1152921504606846976))], none⟩,
 ⟨(some 7), none, .id, [.slot 6], none⟩,
 ⟨(some 8), (some (7, false)), .id, [.slot 1], none⟩,
 ⟨(some 9), (some (7, false)), .bin .gtr, [.slot 8, .val (.int .i64 1152921504606846976)], none⟩,
 ⟨(some 10), none, .pick, [.slot 7, .val (.bool true), .slot 9], none⟩])
 (.cond (.slot 10)
 (.seq
 (.region [
 ⟨(some 11), none, .id, [.slot 0], none⟩,
 ⟨(some 4), none, .id, [.slot 11], none⟩])
 (.ret))
 (.skip)))
 (.seq
 (.seq
 (.region [
 ⟨(some 12), none, .id, [.slot 1], none⟩,
 ⟨(some 13), none, .bin .lss, [.slot 12, .val (.int .i64 0)], none⟩])
 (.cond (.slot 13)
 (.seq
 (.region [
 ⟨(some 14), none, .id, [.slot 0], none⟩,
 ⟨(some 15), none, .id, [.slot 1], none⟩,
 ⟨(some 16), none, .bin .mul, [.val (.int .i64 (-2)), .slot 15], none⟩,
 ⟨(some 17), none, .bin .sub, [.slot 16, .val (.int .i64 1)], none⟩,
 ⟨(some 18), none, .call f_hedgerowref02_Put, [.slot 14, .slot 17], none⟩,
 ⟨(some 4), none, .id, [.slot 18], none⟩])
 (.ret))
 (.skip)))
 (.seq
 (.region [
 ⟨(some 19), none, .id, [.slot 0], none⟩,
 ⟨(some 20), none, .id, [.slot 1], none⟩,
 ⟨(some 21), none, .bin .mul, [.val (.int .i64 2), .slot 20], none⟩,
 ⟨(some 22), none, .call f_hedgerowref02_Put, [.slot 19, .slot 21], none⟩,
 ⟨(some 4), none, .id, [.slot 22], none⟩])
 (.ret))))
def F_hedgerowref02_Signed : IFun := ⟨23, [.slot 4], b_hedgerowref02_Signed, 6, 0, nofn⟩
theorem c_hedgerowref02_Signed : cFun Tryz.prog [] 0 f_hedgerowref02_Signed = some F_hedgerowref02_Signed := by kernel_rfl

def L0_hedgerowref06_Put : ICode :=
 .seq
 (.region [
 ⟨(some 21), none, .bin .lss, [.slot 20, .val (.int .i64 16)], none⟩])
 (.seq
 (.cond (.slot 21)
 (.skip)
 (.exit 0))
 (.seq
 (.block 1
 (.seq
 (.region [
 ⟨(some 22), none, .ixarr 16 1 false, [.slot 19, .slot 20], none⟩,
 ⟨(some 6), none, .id, [.slot 22], none⟩])
 (.region [
 ⟨(some 23), none, .id, [.slot 0], none⟩,
 ⟨(some 24), none, .id, [.slot 6], none⟩,
 ⟨(some 25), none, .call f_hedgerowref02_Put, [.slot 23, .slot 24], none⟩,
 ⟨(some 0), none, .id, [.slot 25], none⟩])))
 (.region [
 ⟨(some 26), none, .bin .add, [.slot 20, .val (.int .i64 1)], none⟩,
 ⟨(some 20), none, .id, [.slot 26], none⟩])))
def L1_hedgerowref06_Put : ICode :=
 .seq
 (.region [
 ⟨(some 50), none, .bin .lss, [.slot 49, .slot 48], none⟩])
 (.seq
 (.cond (.slot 50)
 (.skip)
 (.exit 2))
 (.seq
 (.block 3
 (.seq
 (.region [
 ⟨(some 51), none, .ixaddr 1, [.slot 47, .slot 49], none⟩,
 ⟨(some 52), none, .load 1 false, [.slot 51], none⟩,
 ⟨(some 8), none, .id, [.slot 52], none⟩])
 (.region [
 ⟨(some 53), none, .id, [.slot 0], none⟩,
 ⟨(some 54), none, .id, [.slot 8], none⟩,
 ⟨(some 55), none, .call f_hedgerowref02_Text, [.slot 53, .slot 54], none⟩,
 ⟨(some 0), none, .id, [.slot 55], none⟩])))
 (.region [
 ⟨(some 56), none, .bin .add, [.slot 49, .val (.int .i64 1)], none⟩,
 ⟨(some 49), none, .id, [.slot 56], none⟩])))
def b_hedgerowref06_Put : ICode :=
 .seq
 (.region [
 ⟨(some 3), none, .boxL, [.slot 1], none⟩,
 ⟨(some 4), none, .id, [.val .nilsl], none⟩])
 (.seq
 (.region [
 ⟨(some 9), none, .id, [.slot 0], none⟩,
 ⟨(some 10), none, .faddr 0, [.slot 3], none⟩,
 ⟨(some 11), none, .faddr 0, [.slot 10], none⟩,
 ⟨(some 12), none, .load 1 false, [.slot 11], (some (.loc 3))⟩,
 ⟨(some 13), none, .call f_hedgerowref02_Put, [.slot 9, .slot 12], none⟩,
 ⟨(some 14), none, .faddr 0, [.slot 3], none⟩,
 ⟨(some 15), none, .faddr 1, [.slot 14], none⟩,
 ⟨(some 16), none, .load 1 false, [.slot 15], (some (.loc 3))⟩,
 ⟨(some 17), none, .call f_hedgerowref02_Put, [.slot 13, .slot 16], none⟩,
 ⟨(some 0), none, .id, [.slot 17], none⟩])
 (.seq
 (.seq
 (.region [
 ⟨(some 18), none, .faddr 2, [.slot 3], none⟩,
 ⟨(some 19), none, .load 16 true, [.slot 18], none⟩,
 ⟨(some 20), none, .id, [.val (.int .i64 0)], none⟩])
 (.block 0
 (.loop L0_hedgerowref06_Put)))
 (.seq
 (.region [
 ⟨(some 27), none, .id, [.slot 0], none⟩,
 ⟨(some 28), none, .faddr 18, [.slot 3], none⟩,
 ⟨(some 29), none, .load 1 false, [.slot 28], (some (.loc 3))⟩,
 ⟨(some 30), none, .call f_hedgerowref02_Put, [.slot 27, .slot 29], none⟩,
 ⟨(some 31), none, .faddr 19, [.slot 3], none⟩,
 ⟨(some 32), none, .faddr 0, [.slot 31], none⟩,
 ⟨(some 33), none, .load 1 false, [.slot 32], (some (.loc 3))⟩,
 ⟨(some 34), none, .call f_hedgerowref02_Put, [.slot 30, .slot 33], none⟩,
 ⟨(some 0), none, .id, [.slot 34], none⟩])
 (.seq
 (.seq
 (.region [
 ⟨(some 35), none, .faddr 19, [.slot 3], none⟩,
 ⟨(some 36), none, .faddr 1, [.slot 35], none⟩,
 ⟨(some 37), none, .load 1 false, [.slot 36], none⟩,
 ⟨(some 38), none, .faddr 19, [.slot 3], none⟩,
 ⟨(some 39), none, .faddr 2, [.slot 38], none⟩,
 ⟨(some 40), none, .load 1 false, [.slot 39], none⟩,
 ⟨(some 41), none, .faddr 19, [.slot 3], none⟩,
 ⟨(some 42), none, .faddr 3, [.slot 41], none⟩,
 ⟨(some 43), none, .load 1 false, [.slot 42], none⟩,
 ⟨(some 44), none, .faddr 19, [.slot 3], none⟩,
 ⟨(some 45), none, .faddr 4, [.slot 44], none⟩,
 ⟨(some 46), none, .load 1 false, [.slot 45], none⟩,
 ⟨(some 47), none, .buildSl 1 4 (.str ⟨#[]⟩) [0, 1, 2, 3], [.slot 37, .slot 40, .slot 43, .slot 46], none⟩,
 ⟨(some 48), none, .lensl, [.slot 47], none⟩,
 ⟨(some 49), none, .id, [.val (.int .i64 0)], none⟩])
 (.block 2
 (.loop L1_hedgerowref06_Put)))
 (.seq
 (.region [
 ⟨(some 57), none, .id, [.slot 0], none⟩,
 ⟨(some 58), none, .faddr 24, [.slot 3], none⟩,
 ⟨(some 59), none, .faddr 0, [.slot 58], none⟩,
 ⟨(some 60), none, .load 1 false, [.slot 59], (some (.loc 3))⟩,
 ⟨(some 61), none, .call f_hedgerowref02_Put, [.slot 57, .slot 60], none⟩,
 ⟨(some 62), none, .faddr 24, [.slot 3], none⟩,
 ⟨(some 63), none, .faddr 1, [.slot 62], none⟩,
 ⟨(some 64), none, .load 1 false, [.slot 63], (some (.loc 3))⟩,
 ⟨(some 65), none, .call f_hedgerowref02_Signed, [.slot 61, .slot 64], none⟩,
 ⟨(some 66), none, .faddr 24, [.slot 3], none⟩,
 ⟨(some 67), none, .faddr 2, [.slot 66], none⟩,
 ⟨(some 68), none, .load 1 false, [.slot 67], (some (.loc 3))⟩,
 ⟨(some 69), none, .call f_hedgerowref02_Text, [.slot 65, .slot 68], none⟩,
 ⟨(some 4), none, .id, [.slot 69], none⟩])
 (.ret))))))
def F_hedgerowref06_Put : IFun := ⟨70, [.slot 4], b_hedgerowref06_Put, 6, 0, nofn⟩
theorem c_hedgerowref06_Put : cFun Tryz.prog [1048579] 0 f_hedgerowref06_Put = some F_hedgerowref06_Put := by kernel_rfl

def b_snap_Same_1 : ICode :=
 .seq
 (.region [
 ⟨(some 2), none, .boxL, [.slot 0], none⟩,
 ⟨(some 3), none, .boxL, [.slot 1], none⟩,
 ⟨(some 4), none, .id, [.val (.bool false)], none⟩])
 (.seq
 (.region [
 ⟨(some 5), none, .faddr 0, [.slot 2], none⟩,
 ⟨(some 6), none, .load 5 true, [.slot 5], none⟩,
 ⟨(some 7), none, .faddr 0, [.slot 3], none⟩,
 ⟨(some 8), none, .load 5 true, [.slot 7], none⟩,
 ⟨(some 9), none, .eqv false [(.int .i64), .str, .str, .str, .str], [.slot 6, .slot 8], none⟩,
 ⟨(some 10), none, .id, [.slot 9], none⟩,
 ⟨(some 11), (some (10, true)), .faddr 5, [.slot 2], none⟩,
 ⟨(some 12), (some (10, true)), .load 1 false, [.slot 11], none⟩,
 ⟨(some 13), (some (10, true)), .faddr 5, [.slot 3], none⟩,
 ⟨(some 14), (some (10, true)), .load 1 false, [.slot 13], none⟩,
 ⟨(some 15), (some (10, true)), .call f_slices_Equalstore_Entrystore_Entry, [.slot 12, .slot 14], none⟩,
 ⟨(some 16), none, .pick, [.slot 10, .slot 15, .val (.bool false)], none⟩,
 ⟨(some 4), none, .id, [.slot 16], none⟩])
 (.ret))
def F_snap_Same_1 : IFun := ⟨17, [.slot 4], b_snap_Same_1, 6, 0, nofn⟩
theorem c_snap_Same_1 : cFun Tryz.prog [1048578, 1048579] 0 f_snap_Same_1 = some F_snap_Same_1 := by kernel_rfl

def L0_slices_Equalstore_Entrystore_Entry : ICode :=
 .seq
 (.region [
 ⟨(some 14), none, .bin .lss, [.slot 13, .slot 12], none⟩])
 (.seq
 (.cond (.slot 14)
 (.skip)
 (.exit 0))
 (.seq
 (.block 1
 (.seq
 (.region [
 ⟨(some 15), none, .id, [.slot 13], none⟩,
 ⟨(some 5), none, .id, [.slot 15], none⟩])
 (.seq
 (.region [
 ⟨(some 16), none, .id, [.slot 0], none⟩,
 ⟨(some 17), none, .id, [.slot 5], none⟩,
 ⟨(some 18), none, .ixaddr 5, [.slot 16, .slot 17], none⟩,
 ⟨(some 19), none, .load 5 true, [.slot 18], (some (.el))⟩,
 ⟨(some 20), none, .id, [.slot 1], none⟩,
 ⟨(some 21), none, .id, [.slot 5], none⟩,
 ⟨(some 22), none, .ixaddr 5, [.slot 20, .slot 21], none⟩,
 ⟨(some 23), none, .load 5 true, [.slot 22], (some (.el))⟩,
 ⟨(some 24), none, .eqv true [(.int .i64), (.int .i64), (.int .i64), (.int .i64), .str], [.slot 19, .slot 23], none⟩])
 (.cond (.slot 24)
 (.seq
 (.region [
 ⟨(some 4), none, .id, [.val (.bool false)], none⟩])
 (.ret))
 (.skip)))))
 (.region [
 ⟨(some 25), none, .bin .add, [.slot 13, .val (.int .i64 1)], none⟩,
 ⟨(some 13), none, .id, [.slot 25], none⟩])))
def b_slices_Equalstore_Entrystore_Entry : ICode :=
 .seq
 (.region [
 ⟨(some 4), none, .id, [.val (.bool false)], none⟩])
 (.seq
 (.seq
 (.region [
 ⟨(some 6), none, .id, [.slot 0], none⟩,
 ⟨(some 7), none, .lensl, [.slot 6], none⟩,
 ⟨(some 8), none, .id, [.slot 1], none⟩,
 ⟨(some 9), none, .lensl, [.slot 8], none⟩,
 ⟨(some 10), none, .bin .neq, [.slot 7, .slot 9], none⟩])
 (.cond (.slot 10)
 (.seq
 (.region [
 ⟨(some 4), none, .id, [.val (.bool false)], none⟩])
 (.ret))
 (.skip)))
 (.seq
 (.seq
 (.region [
 ⟨(some 11), none, .id, [.slot 0], none⟩,
 ⟨(some 12), none, .lensl, [.slot 11], none⟩,
 ⟨(some 13), none, .id, [.val (.int .i64 0)], none⟩])
 (.block 0
 (.loop L0_slices_Equalstore_Entrystore_Entry)))
 (.seq
 (.region [
 ⟨(some 4), none, .id, [.val (.bool true)], none⟩])
 (.ret))))
def F_slices_Equalstore_Entrystore_Entry : IFun := ⟨26, [.slot 4], b_slices_Equalstore_Entrystore_Entry, 6, 0, nofn⟩
theorem c_slices_Equalstore_Entrystore_Entry : cFun Tryz.prog [] 0 f_slices_Equalstore_Entrystore_Entry = some F_slices_Equalstore_Entrystore_Entry := by kernel_rfl

def L0_slices_EqualFuncstore_Itemstore_Itemstore_Itemstore_Item : ICode :=
 .seq
 (.region [
 ⟨(some 18), none, .bin .lss, [.slot 17, .slot 16], none⟩])
 (.seq
 (.cond (.slot 18)
 (.skip)
 (.exit 0))
 (.seq
 (.block 1
 (.seq
 (.region [
 ⟨(some 19), none, .id, [.slot 17], none⟩,
 ⟨(some 20), none, .ixaddr 6, [.slot 15, .slot 17], none⟩,
 ⟨(some 21), none, .load 6 true, [.slot 20], none⟩,
 ⟨(some 8), none, .allocL [(.int .i64 0), (.str ⟨#[]⟩), (.str ⟨#[]⟩), (.str ⟨#[]⟩), (.str ⟨#[]⟩), .nilsl], [], none⟩,
 ⟨(some 7), none, .id, [.slot 19], none⟩,
 ⟨none, none, .store 6, [.slot 8, .slot 21], none⟩])
 (.seq
 (.region [
 ⟨(some 22), none, .id, [.slot 1], none⟩,
 ⟨(some 23), none, .id, [.slot 7], none⟩,
 ⟨(some 24), none, .ixaddr 6, [.slot 22, .slot 23], none⟩,
 ⟨(some 25), none, .load 6 true, [.slot 24], none⟩,
 ⟨(some 9), none, .allocL [(.int .i64 0), (.str ⟨#[]⟩), (.str ⟨#[]⟩), (.str ⟨#[]⟩), (.str ⟨#[]⟩), .nilsl], [], none⟩,
 ⟨none, none, .store 6, [.slot 9, .slot 25], none⟩])
 (.seq
 (.region [
 ⟨(some 26), none, .id, [.slot 2], none⟩,
 ⟨(some 27), none, .load 6 true, [.slot 8], none⟩,
 ⟨(some 28), none, .load 6 true, [.slot 9], none⟩,
 ⟨(some 29), none, .callv, [.slot 26, .slot 27, .slot 28], none⟩,
 ⟨(some 30), none, .un .not, [.slot 29], none⟩])
 (.cond (.slot 30)
 (.seq
 (.region [
 ⟨(some 6), none, .id, [.val (.bool false)], none⟩])
 (.ret))
 (.skip))))))
 (.region [
 ⟨(some 31), none, .bin .add, [.slot 17, .val (.int .i64 1)], none⟩,
 ⟨(some 17), none, .id, [.slot 31], none⟩])))
def b_slices_EqualFuncstore_Itemstore_Itemstore_Itemstore_Item : ICode :=
 .seq
 (.region [
 ⟨(some 6), none, .id, [.val (.bool false)], none⟩])
 (.seq
 (.seq
 (.region [
 ⟨(some 10), none, .id, [.slot 0], none⟩,
 ⟨(some 11), none, .lensl, [.slot 10], none⟩,
 ⟨(some 12), none, .id, [.slot 1], none⟩,
 ⟨(some 13), none, .lensl, [.slot 12], none⟩,
 ⟨(some 14), none, .bin .neq, [.slot 11, .slot 13], none⟩])
 (.cond (.slot 14)
 (.seq
 (.region [
 ⟨(some 6), none, .id, [.val (.bool false)], none⟩])
 (.ret))
 (.skip)))
 (.seq
 (.seq
 (.region [
 ⟨(some 15), none, .id, [.slot 0], none⟩,
 ⟨(some 16), none, .lensl, [.slot 15], none⟩,
 ⟨(some 17), none, .id, [.val (.int .i64 0)], none⟩])
 (.block 0
 (.loop L0_slices_EqualFuncstore_Itemstore_Itemstore_Itemstore_Item)))
 (.seq
 (.region [
 ⟨(some 6), none, .id, [.val (.bool true)], none⟩])
 (.ret))))
def F_slices_EqualFuncstore_Itemstore_Itemstore_Itemstore_Item : IFun := ⟨32, [.slot 6], b_slices_EqualFuncstore_Itemstore_Itemstore_Itemstore_Item, 6, 0, nofn⟩
theorem c_slices_EqualFuncstore_Itemstore_Itemstore_Itemstore_Item : cFun Tryz.prog [1048584, 1048585] 0 f_slices_EqualFuncstore_Itemstore_Itemstore_Itemstore_Item = some F_slices_EqualFuncstore_Itemstore_Itemstore_Itemstore_Item := by kernel_rfl

def L0_slices_Equalapi_Eventapi_Event : ICode :=
 .seq
 (.region [
 ⟨(some 14), none, .bin .lss, [.slot 13, .slot 12], none⟩])
 (.seq
 (.cond (.slot 14)
 (.skip)
 (.exit 0))
 (.seq
 (.block 1
 (.seq
 (.region [
 ⟨(some 15), none, .id, [.slot 13], none⟩,
 ⟨(some 5), none, .id, [.slot 15], none⟩])
 (.seq
 (.region [
 ⟨(some 16), none, .id, [.slot 0], none⟩,
 ⟨(some 17), none, .id, [.slot 5], none⟩,
 ⟨(some 18), none, .ixaddr 27, [.slot 16, .slot 17], none⟩,
 ⟨(some 19), none, .load 27 true, [.slot 18], (some (.el))⟩,
 ⟨(some 20), none, .id, [.slot 1], none⟩,
 ⟨(some 21), none, .id, [.slot 5], none⟩,
 ⟨(some 22), none, .ixaddr 27, [.slot 20, .slot 21], none⟩,
 ⟨(some 23), none, .load 27 true, [.slot 22], (some (.el))⟩,
 ⟨(some 24), none, .eqv true [(.int .i64), (.int .i64), (.int .i64), (.int .i64), (.int .i64), (.int .i64), (.int .i64), (.int .i64), (.int .i64), (.int .i64), (.int .i64), (.int .i64), (.int .i64), (.int .i64), (.int .i64), (.int .i64), (.int .i64), (.int .i64), (.int .i64), (.int .i64), .str, .str, .str, .str, (.int .i64), (.int .i64), .str], [.slot 19, .slot 23], none⟩])
 (.cond (.slot 24)
 (.seq
 (.region [
 ⟨(some 4), none, .id, [.val (.bool false)], none⟩])
 (.ret))
 (.skip)))))
 (.region [
 ⟨(some 25), none, .bin .add, [.slot 13, .val (.int .i64 1)], none⟩,
 ⟨(some 13), none, .id, [.slot 25], none⟩])))
def b_slices_Equalapi_Eventapi_Event : ICode :=
 .seq
 (.region [
 ⟨(some 4), none, .id, [.val (.bool false)], none⟩])
 (.seq
 (.seq
 (.region [
 ⟨(some 6), none, .id, [.slot 0], none⟩,
 ⟨(some 7), none, .lensl, [.slot 6], none⟩,
 ⟨(some 8), none, .id, [.slot 1], none⟩,
 ⟨(some 9), none, .lensl, [.slot 8], none⟩,
 ⟨(some 10), none, .bin .neq, [.slot 7, .slot 9], none⟩])
 (.cond (.slot 10)
 (.seq
 (.region [
 ⟨(some 4), none, .id, [.val (.bool false)], none⟩])
 (.ret))
 (.skip)))
 (.seq
 (.seq
 (.region [
 ⟨(some 11), none, .id, [.slot 0], none⟩,
 ⟨(some 12), none, .lensl, [.slot 11], none⟩,
 ⟨(some 13), none, .id, [.val (.int .i64 0)], none⟩])
 (.block 0
 (.loop L0_slices_Equalapi_Eventapi_Event)))
 (.seq
 (.region [
 ⟨(some 4), none, .id, [.val (.bool true)], none⟩])
 (.ret))))
def F_slices_Equalapi_Eventapi_Event : IFun := ⟨26, [.slot 4], b_slices_Equalapi_Eventapi_Event, 6, 0, nofn⟩
theorem c_slices_Equalapi_Eventapi_Event : cFun Tryz.prog [] 0 f_slices_Equalapi_Eventapi_Event = some F_slices_Equalapi_Eventapi_Event := by kernel_rfl

def b_slices_Clonestore_Entrystore_Entry : ICode :=
 .seq
 (.region [
 ⟨(some 2), none, .id, [.val .nilsl], none⟩])
 (.seq
 (.seq
 (.region [
 ⟨(some 3), none, .id, [.slot 0], none⟩,
 ⟨(some 4), none, .eq1 false .slice, [.slot 3, .val .nilsl], none⟩])
 (.cond (.slot 4)
 (.seq
 (.region [
 ⟨(some 2), none, .id, [.val .nilsl], none⟩])
 (.ret))
 (.skip)))
 (.seq
 (.region [
 ⟨(some 5), none, .buildSl 5 0 (.agg [(.int .i64 0), (.int .i64 0), (.int .i64 0), (.int .i64 0), (.str ⟨#[]⟩)]) [], [], none⟩,
 ⟨(some 6), none, .id, [.slot 0], none⟩,
 ⟨(some 7), none, .append 71 5 48, [.slot 5, .slot 6], none⟩,
 ⟨(some 2), none, .id, [.slot 7], none⟩])
 (.ret)))
def F_slices_Clonestore_Entrystore_Entry : IFun := ⟨8, [.slot 2], b_slices_Clonestore_Entrystore_Entry, 6, 0, nofn⟩
theorem c_slices_Clonestore_Entrystore_Entry : cFun Tryz.prog [] 0 f_slices_Clonestore_Entrystore_Entry = some F_slices_Clonestore_Entrystore_Entry := by kernel_rfl

def b_store_byDot : ICode :=
 .seq
 (.region [
 ⟨(some 2), none, .boxL, [.slot 0], none⟩,
 ⟨(some 3), none, .boxL, [.slot 1], none⟩,
 ⟨(some 4), none, .id, [.val (.int .i64 0)], none⟩])
 (.seq
 (.region [
 ⟨(some 5), none, .faddr 0, [.slot 2], none⟩,
 ⟨(some 6), none, .faddr 0, [.slot 5], none⟩,
 ⟨(some 7), none, .load 1 false, [.slot 6], (some (.loc 2))⟩,
 ⟨(some 8), none, .faddr 0, [.slot 3], none⟩,
 ⟨(some 9), none, .faddr 0, [.slot 8], none⟩,
 ⟨(some 10), none, .load 1 false, [.slot 9], (some (.loc 3))⟩,
 ⟨(some 11), none, .call f_cmp_Compareint, [.slot 7, .slot 10], none⟩,
 ⟨(some 12), none, .faddr 0, [.slot 2], none⟩,
 ⟨(some 13), none, .faddr 1, [.slot 12], none⟩,
 ⟨(some 14), none, .load 1 false, [.slot 13], (some (.loc 2))⟩,
 ⟨(some 15), none, .faddr 0, [.slot 3], none⟩,
 ⟨(some 16), none, .faddr 1, [.slot 15], none⟩,
 ⟨(some 17), none, .load 1 false, [.slot 16], (some (.loc 3))⟩,
 ⟨(some 18), none, .call f_cmp_Compareint, [.slot 14, .slot 17], none⟩,
 ⟨(some 19), none, .buildSl 1 2 (.int .i64 0) [0, 1], [.slot 11, .slot 18], none⟩,
 ⟨(some 20), none, .call f_cmp_Orint, [.slot 19], none⟩,
 ⟨(some 4), none, .id, [.slot 20], none⟩])
 (.ret))
def F_store_byDot : IFun := ⟨21, [.slot 4], b_store_byDot, 6, 0, nofn⟩
theorem c_store_byDot : cFun Tryz.prog [1048578, 1048579] 0 f_store_byDot = some F_store_byDot := by kernel_rfl

def b_store_Store_lay : ICode :=
 .seq
 (.region [
 ⟨(some 4), none, .boxL, [.slot 1], none⟩])
 (.seq
 (.seq
 (.region [
 ⟨(some 6), none, .id, [.slot 2], none⟩,
 ⟨(some 7), none, .lensl, [.slot 6], none⟩,
 ⟨(some 8), none, .bin .eql, [.slot 7, .val (.int .i64 0)], none⟩])
 (.cond (.slot 8)
 (.seq
 (.region [
 ⟨(some 9), none, .id, [.slot 0], none⟩,
 ⟨(some 10), none, .nilchk, [.slot 9], none⟩,
 ⟨(some 11), none, .faddr 0, [.slot 10], none⟩,
 ⟨(some 12), none, .load 1 false, [.slot 11], (some (.heap))⟩,
 ⟨(some 13), none, .load 5 true, [.slot 4], (some (.loc 4))⟩,
 ⟨none, none, .mdel true [(.int .i64), .str, .str, .str, .str], [.slot 12, .slot 13], none⟩])
 (.ret))
 (.skip)))
 (.region [
 ⟨(some 14), none, .id, [.slot 0], none⟩,
 ⟨(some 15), none, .nilchk, [.slot 14], none⟩,
 ⟨(some 16), none, .faddr 0, [.slot 15], none⟩,
 ⟨(some 17), none, .load 1 false, [.slot 16], (some (.heap))⟩,
 ⟨(some 18), none, .load 5 true, [.slot 4], (some (.loc 4))⟩,
 ⟨(some 19), none, .id, [.slot 2], none⟩,
 ⟨none, none, .mset true [(.int .i64), .str, .str, .str, .str], [.slot 17, .slot 18, .slot 19], none⟩]))
def F_store_Store_lay : IFun := ⟨20, [], b_store_Store_lay, 6, 0, nofn⟩
theorem c_store_Store_lay : cFun Tryz.prog [1048580] 0 f_store_Store_lay = some F_store_Store_lay := by kernel_rfl

def b_value_Elem : ICode :=
 .seq
 (.region [
 ⟨(some 1), none, .boxL, [.slot 0], none⟩,
 ⟨(some 2), none, .id, [.val (.bool false)], none⟩])
 (.seq
 (.seq
 (.region [
 ⟨(some 3), none, .faddr 0, [.slot 1], none⟩,
 ⟨(some 4), none, .load 1 false, [.slot 3], none⟩])
 (.block 0
 (.seq
 (.region [
 ⟨(some 6), none, .bin .eql, [.slot 4, .val (.int .i64 1)], none⟩,
 ⟨(some 5), none, .id, [.slot 6], none⟩])
 (.cond (.slot 5)
 (.seq
 (.region [
 ⟨(some 7), none, .faddr 1, [.slot 1], none⟩,
 ⟨(some 8), none, .load 1 false, [.slot 7], none⟩,
 ⟨(some 9), none, .buildSl 1 1 (.str ⟨#[]⟩) [0], [.slot 8], none⟩,
 ⟨(some 10), none, .call f_value_names, [.slot 9], none⟩,
 ⟨(some 11), none, .id, [.slot 10], none⟩,
 ⟨(some 12), (some (11, true)), .faddr 2, [.slot 1], none⟩,
 ⟨(some 13), (some (11, true)), .load 1 false, [.slot 12], none⟩,
 ⟨(some 14), (some (11, true)), .faddr 3, [.slot 1], none⟩,
 ⟨(some 15), (some (11, true)), .load 1 false, [.slot 14], none⟩,
 ⟨(some 16), (some (11, true)), .faddr 4, [.slot 1], none⟩,
 ⟨(some 17), (some (11, true)), .load 1 false, [.slot 16], none⟩,
 ⟨(some 18), (some (11, true)), .buildSl 1 3 (.str ⟨#[]⟩) [0, 1, 2], [.slot 13, .slot 15, .slot 17], none⟩,
 ⟨(some 19), (some (11, true)), .call f_value_empty, [.slot 18], none⟩,
 ⟨(some 20), none, .pick, [.slot 11, .slot 19, .val (.bool false)], none⟩,
 ⟨(some 2), none, .id, [.slot 20], none⟩])
 (.ret))
 (.seq
 (.seq
 (.region [
 ⟨(some 22), none, .bin .eql, [.slot 4, .val (.int .i64 2)], none⟩,
 ⟨(some 21), none, .id, [.slot 22], none⟩])
 (.cond (.slot 21)
 (.skip)
 (.region [
 ⟨(some 23), none, .bin .eql, [.slot 4, .val (.int .i64 4)], none⟩,
 ⟨(some 21), none, .id, [.slot 23], none⟩])))
 (.cond (.slot 21)
 (.seq
 (.region [
 ⟨(some 24), none, .faddr 1, [.slot 1], none⟩,
 ⟨(some 25), none, .load 1 false, [.slot 24], none⟩,
 ⟨(some 26), none, .faddr 4, [.slot 1], none⟩,
 ⟨(some 27), none, .load 1 false, [.slot 26], none⟩,
 ⟨(some 28), none, .buildSl 1 2 (.str ⟨#[]⟩) [0, 1], [.slot 25, .slot 27], none⟩,
 ⟨(some 29), none, .call f_value_names, [.slot 28], none⟩,
 ⟨(some 30), none, .id, [.slot 29], none⟩,
 ⟨(some 31), (some (30, true)), .faddr 2, [.slot 1], none⟩,
 ⟨(some 32), (some (30, true)), .load 1 false, [.slot 31], none⟩,
 ⟨(some 33), (some (30, true)), .faddr 3, [.slot 1], none⟩,
 ⟨(some 34), (some (30, true)), .load 1 false, [.slot 33], none⟩,
 ⟨(some 35), (some (30, true)), .buildSl 1 2 (.str ⟨#[]⟩) [0, 1], [.slot 32, .slot 34], none⟩,
 ⟨(some 36), (some (30, true)), .call f_value_empty, [.slot 35], none⟩,
 ⟨(some 37), none, .pick, [.slot 30, .slot 36, .val (.bool false)], none⟩,
 ⟨(some 2), none, .id, [.slot 37], none⟩])
 (.ret))
 (.seq
 (.region [
 ⟨(some 39), none, .bin .eql, [.slot 4, .val (.int .i64 3)], none⟩,
 ⟨(some 38), none, .id, [.slot 39], none⟩])
 (.cond (.slot 38)
 (.seq
 (.region [
 ⟨(some 40), none, .faddr 1, [.slot 1], none⟩,
 ⟨(some 41), none, .load 1 false, [.slot 40], none⟩,
 ⟨(some 42), none, .faddr 2, [.slot 1], none⟩,
 ⟨(some 43), none, .load 1 false, [.slot 42], none⟩,
 ⟨(some 44), none, .faddr 3, [.slot 1], none⟩,
 ⟨(some 45), none, .load 1 false, [.slot 44], none⟩,
 ⟨(some 46), none, .buildSl 1 3 (.str ⟨#[]⟩) [0, 1, 2], [.slot 41, .slot 43, .slot 45], none⟩,
 ⟨(some 47), none, .call f_value_names, [.slot 46], none⟩,
 ⟨(some 48), none, .id, [.slot 47], none⟩,
 ⟨(some 49), (some (48, true)), .faddr 4, [.slot 1], none⟩,
 ⟨(some 50), (some (48, true)), .load 1 false, [.slot 49], none⟩,
 ⟨(some 51), (some (48, true)), .buildSl 1 1 (.str ⟨#[]⟩) [0], [.slot 50], none⟩,
 ⟨(some 52), (some (48, true)), .call f_value_empty, [.slot 51], none⟩,
 ⟨(some 53), none, .pick, [.slot 48, .slot 52, .val (.bool false)], none⟩,
 ⟨(some 2), none, .id, [.slot 53], none⟩])
 (.ret))
 (.seq
 (.region [
 ⟨(some 55), none, .bin .eql, [.slot 4, .val (.int .i64 5)], none⟩,
 ⟨(some 54), none, .id, [.slot 55], none⟩])
 (.cond (.slot 54)
 (.seq
 (.region [
 ⟨(some 56), none, .faddr 1, [.slot 1], none⟩,
 ⟨(some 57), none, .load 1 false, [.slot 56], none⟩,
 ⟨(some 58), none, .faddr 2, [.slot 1], none⟩,
 ⟨(some 59), none, .load 1 false, [.slot 58], none⟩,
 ⟨(some 60), none, .faddr 3, [.slot 1], none⟩,
 ⟨(some 61), none, .load 1 false, [.slot 60], none⟩,
 ⟨(some 62), none, .faddr 4, [.slot 1], none⟩,
 ⟨(some 63), none, .load 1 false, [.slot 62], none⟩,
 ⟨(some 64), none, .buildSl 1 4 (.str ⟨#[]⟩) [0, 1, 2, 3], [.slot 57, .slot 59, .slot 61, .slot 63], none⟩,
 ⟨(some 65), none, .call f_value_names, [.slot 64], none⟩,
 ⟨(some 2), none, .id, [.slot 65], none⟩])
 (.ret))
 (.skip)))))))))))
 (.seq
 (.region [
 ⟨(some 2), none, .id, [.val (.bool false)], none⟩])
 (.ret)))
def F_value_Elem : IFun := ⟨66, [.slot 2], b_value_Elem, 6, 0, nofn⟩
theorem c_value_Elem : cFun Tryz.prog [1048577] 0 f_value_Elem = some F_value_Elem := by kernel_rfl

def b_store_entry : ICode :=
 .seq
 (.region [
 ⟨(some 2), none, .boxL, [.slot 0], none⟩,
 ⟨(some 3), none, .boxL, [.slot 1], none⟩,
 ⟨(some 4), none, .id, [.val (.bool false)], none⟩])
 (.seq
 (.region [
 ⟨(some 5), none, .id, [.val (.int .i64 1)], none⟩])
 (.seq
 (.seq
 (.region [
 ⟨(some 6), none, .faddr 0, [.slot 2], none⟩,
 ⟨(some 7), none, .load 1 false, [.slot 6], none⟩,
 ⟨(some 8), none, .bin .eql, [.slot 7, .val (.int .i64 4)], none⟩,
 ⟨(some 9), none, .id, [.slot 8], none⟩,
 ⟨(some 10), (some (9, false)), .faddr 0, [.slot 2], none⟩,
 ⟨(some 11), (some (9, false)), .load 1 false, [.slot 10], none⟩,
 ⟨(some 12), (some (9, false)), .bin .eql, [.slot 11, .val (.int .i64 5)], none⟩,
 ⟨(some 13), none, .pick, [.slot 9, .val (.bool true), .slot 12], none⟩])
 (.cond (.slot 13)
 (.region [
 ⟨(some 5), none, .id, [.val (.int .i64 3)], none⟩])
 (.skip)))
 (.seq
 (.region [
 ⟨(some 14), none, .faddr 0, [.slot 3], none⟩,
 ⟨(some 15), none, .load 2 true, [.slot 14], none⟩,
 ⟨(some 16), none, .call f_vector_Dot, [.slot 15], none⟩,
 ⟨(some 17), none, .id, [.slot 16], none⟩,
 ⟨(some 18), (some (17, true)), .id, [.slot 5], none⟩,
 ⟨(some 19), (some (17, true)), .load 5 true, [.slot 2], none⟩,
 ⟨(some 20), (some (17, true)), .faddr 2, [.slot 3], none⟩,
 ⟨(some 21), (some (17, true)), .load 3 true, [.slot 20], none⟩,
 ⟨(some 22), (some (17, true)), .build [(.int .i64 0), (.int .i64 0), (.str ⟨#[]⟩), (.str ⟨#[]⟩), (.str ⟨#[]⟩), (.str ⟨#[]⟩), (.int .i64 0), (.int .i64 0), (.str ⟨#[]⟩)] [(0, 1), (1, 5), (6, 3)], [.slot 18, .slot 19, .slot 21], none⟩,
 ⟨(some 23), (some (17, true)), .call f_event_Change, [.slot 22], none⟩,
 ⟨(some 24), (some (17, true)), .bin .eql, [.slot 23, .val (.int .i64 0)], none⟩,
 ⟨(some 25), none, .pick, [.slot 17, .slot 24, .val (.bool false)], none⟩,
 ⟨(some 4), none, .id, [.slot 25], none⟩])
 (.ret))))
def F_store_entry : IFun := ⟨26, [.slot 4], b_store_entry, 6, 0, nofn⟩
theorem c_store_entry : cFun Tryz.prog [1048578, 1048579] 0 f_store_entry = some F_store_entry := by kernel_rfl

def F_strings_Join : IFun := ⟨8, [], .trap, 0, 10, nofn⟩

def b_num_Text : ICode :=
 .seq
 (.region [
 ⟨(some 4), none, .id, [.val .nilsl], none⟩])
 (.seq
 (.region [
 ⟨(some 5), none, .id, [.slot 0], none⟩,
 ⟨(some 6), none, .id, [.slot 1], none⟩,
 ⟨(some 7), none, .lenstr, [.slot 6], none⟩,
 ⟨(some 8), none, .call f_num_Put, [.slot 5, .slot 7], none⟩,
 ⟨(some 9), none, .id, [.slot 1], none⟩,
 ⟨(some 10), none, .appendS 5, [.slot 8, .slot 9], none⟩,
 ⟨(some 4), none, .id, [.slot 10], none⟩])
 (.ret))
def F_num_Text : IFun := ⟨11, [.slot 4], b_num_Text, 6, 0, nofn⟩
theorem c_num_Text : cFun Tryz.prog [] 0 f_num_Text = some F_num_Text := by kernel_rfl

def b_snap_putValue : ICode :=
 .seq
 (.region [
 ⟨(some 3), none, .boxL, [.slot 1], none⟩,
 ⟨(some 4), none, .id, [.val .nilsl], none⟩])
 (.seq
 (.region [
 ⟨(some 5), none, .id, [.slot 0], none⟩,
 ⟨(some 6), none, .faddr 0, [.slot 3], none⟩,
 ⟨(some 7), none, .load 1 false, [.slot 6], (some (.loc 3))⟩,
 ⟨(some 8), none, .call f_num_Put, [.slot 5, .slot 7], none⟩,
 ⟨(some 9), none, .faddr 1, [.slot 3], none⟩,
 ⟨(some 10), none, .load 1 false, [.slot 9], (some (.loc 3))⟩,
 ⟨(some 11), none, .call f_num_Signed, [.slot 8, .slot 10], none⟩,
 ⟨(some 12), none, .faddr 2, [.slot 3], none⟩,
 ⟨(some 13), none, .load 1 false, [.slot 12], (some (.loc 3))⟩,
 ⟨(some 14), none, .call f_num_Text, [.slot 11, .slot 13], none⟩,
 ⟨(some 4), none, .id, [.slot 14], none⟩])
 (.ret))
def F_snap_putValue : IFun := ⟨15, [.slot 4], b_snap_putValue, 6, 0, nofn⟩
theorem c_snap_putValue : cFun Tryz.prog [1048579] 0 f_snap_putValue = some F_snap_putValue := by kernel_rfl

def b_num_Signed : ICode :=
 .seq
 (.region [
 ⟨(some 4), none, .id, [.val .nilsl], none⟩])
 (.seq
 (.block 0
 (.seq
 (.region [
 ⟨(some 6), none, .id, [.slot 1], none⟩,
 ⟨(some 7), none, .bin .lss, [.slot 6, .val (.int .i64 (-1152921504606846976))], none⟩,
 ⟨(some 8), none, .id, [.slot 7], none⟩,
 ⟨(some 9), (some (8, false)), .id, [.slot 1], none⟩,
 ⟨(some 10), (some (8, false)), .bin .gtr, [.slot 9, .val (.int .i64 1152921504606846976)], none⟩,
 ⟨(some 11), none, .pick, [.slot 8, .val (.bool true), .slot 10], none⟩,
 ⟨(some 5), none, .id, [.slot 11], none⟩])
 (.cond (.slot 5)
 (.seq
 (.region [
 ⟨(some 12), none, .id, [.slot 0], none⟩,
 ⟨(some 4), none, .id, [.slot 12], none⟩])
 (.ret))
 (.seq
 (.region [
 ⟨(some 14), none, .id, [.slot 1], none⟩,
 ⟨(some 15), none, .bin .lss, [.slot 14, .val (.int .i64 0)], none⟩,
 ⟨(some 13), none, .id, [.slot 15], none⟩])
 (.cond (.slot 13)
 (.seq
 (.region [
 ⟨(some 16), none, .id, [.slot 0], none⟩,
 ⟨(some 17), none, .id, [.slot 1], none⟩,
 ⟨(some 18), none, .bin .mul, [.val (.int .i64 (-2)), .slot 17], none⟩,
 ⟨(some 19), none, .bin .sub, [.slot 18, .val (.int .i64 1)], none⟩,
 ⟨(some 20), none, .call f_num_Put, [.slot 16, .slot 19], none⟩,
 ⟨(some 4), none, .id, [.slot 20], none⟩])
 (.ret))
 (.skip))))))
 (.seq
 (.region [
 ⟨(some 21), none, .id, [.slot 0], none⟩,
 ⟨(some 22), none, .id, [.slot 1], none⟩,
 ⟨(some 23), none, .bin .mul, [.val (.int .i64 2), .slot 22], none⟩,
 ⟨(some 24), none, .call f_num_Put, [.slot 21, .slot 23], none⟩,
 ⟨(some 4), none, .id, [.slot 24], none⟩])
 (.ret)))
def F_num_Signed : IFun := ⟨25, [.slot 4], b_num_Signed, 6, 0, nofn⟩
theorem c_num_Signed : cFun Tryz.prog [] 0 f_num_Signed = some F_num_Signed := by kernel_rfl

def b_hedgerowref01_Elem : ICode :=
 .seq
 (.region [
 ⟨(some 1), none, .boxL, [.slot 0], none⟩,
 ⟨(some 2), none, .id, [.val (.bool false)], none⟩])
 (.seq
 (.region [
 ⟨(some 7), none, .faddr 1, [.slot 1], none⟩,
 ⟨(some 8), none, .load 1 false, [.slot 7], (some (.loc 1))⟩,
 ⟨(some 9), none, .call f_hedgerowref01_Name, [.slot 8], none⟩,
 ⟨(some 10), none, .faddr 2, [.slot 1], none⟩,
 ⟨(some 11), none, .load 1 false, [.slot 10], (some (.loc 1))⟩,
 ⟨(some 12), none, .call f_hedgerowref01_Name, [.slot 11], none⟩,
 ⟨(some 13), none, .faddr 3, [.slot 1], none⟩,
 ⟨(some 14), none, .load 1 false, [.slot 13], (some (.loc 1))⟩,
 ⟨(some 15), none, .call f_hedgerowref01_Name, [.slot 14], none⟩,
 ⟨(some 16), none, .faddr 4, [.slot 1], none⟩,
 ⟨(some 17), none, .load 1 false, [.slot 16], (some (.loc 1))⟩,
 ⟨(some 18), none, .call f_hedgerowref01_Name, [.slot 17], none⟩,
 ⟨(some 3), none, .id, [.slot 9], none⟩,
 ⟨(some 4), none, .id, [.slot 12], none⟩,
 ⟨(some 5), none, .id, [.slot 15], none⟩,
 ⟨(some 6), none, .id, [.slot 18], none⟩])
 (.seq
 (.seq
 (.region [
 ⟨(some 19), none, .faddr 0, [.slot 1], none⟩,
 ⟨(some 20), none, .load 1 false, [.slot 19], none⟩])
 (.block 0
 (.seq
 (.region [
 ⟨(some 22), none, .bin .eql, [.slot 20, .val (.int .i64 1)], none⟩,
 ⟨(some 21), none, .id, [.slot 22], none⟩])
 (.cond (.slot 21)
 (.seq
 (.region [
 ⟨(some 23), none, .id, [.slot 3], none⟩,
 ⟨(some 24), none, .id, [.slot 23], none⟩,
 ⟨(some 25), (some (24, true)), .faddr 2, [.slot 1], none⟩,
 ⟨(some 26), (some (24, true)), .load 1 false, [.slot 25], none⟩,
 ⟨(some 27), (some (24, true)), .bin .eql, [.slot 26, .val (.str ⟨#[]⟩)], none⟩,
 ⟨(some 28), none, .pick, [.slot 24, .slot 27, .val (.bool false)], none⟩,
 ⟨(some 29), none, .id, [.slot 28], none⟩,
 ⟨(some 30), (some (29, true)), .faddr 3, [.slot 1], none⟩,
 ⟨(some 31), (some (29, true)), .load 1 false, [.slot 30], none⟩,
 ⟨(some 32), (some (29, true)), .bin .eql, [.slot 31, .val (.str ⟨#[]⟩)], none⟩,
 ⟨(some 33), none, .pick, [.slot 29, .slot 32, .val (.bool false)], none⟩,
 ⟨(some 34), none, .id, [.slot 33], none⟩,
 ⟨(some 35), (some (34, true)), .faddr 4, [.slot 1], none⟩,
 ⟨(some 36), (some (34, true)), .load 1 false, [.slot 35], none⟩,
 ⟨(some 37), (some (34, true)), .bin .eql, [.slot 36, .val (.str ⟨#[]⟩)], none⟩,
 ⟨(some 38), none, .pick, [.slot 34, .slot 37, .val (.bool false)], none⟩,
 ⟨(some 2), none, .id, [.slot 38], none⟩])
 (.ret))
 (.seq
 (.seq
 (.region [
 ⟨(some 40), none, .bin .eql, [.slot 20, .val (.int .i64 2)], none⟩,
 ⟨(some 39), none, .id, [.slot 40], none⟩])
 (.cond (.slot 39)
 (.skip)
 (.region [
 ⟨(some 41), none, .bin .eql, [.slot 20, .val (.int .i64 4)], none⟩,
 ⟨(some 39), none, .id, [.slot 41], none⟩])))
 (.cond (.slot 39)
 (.seq
 (.region [
 ⟨(some 42), none, .id, [.slot 3], none⟩,
 ⟨(some 43), none, .id, [.slot 42], none⟩,
 ⟨(some 44), (some (43, true)), .faddr 2, [.slot 1], none⟩,
 ⟨(some 45), (some (43, true)), .load 1 false, [.slot 44], none⟩,
 ⟨(some 46), (some (43, true)), .bin .eql, [.slot 45, .val (.str ⟨#[]⟩)], none⟩,
 ⟨(some 47), none, .pick, [.slot 43, .slot 46, .val (.bool false)], none⟩,
 ⟨(some 48), none, .id, [.slot 47], none⟩,
 ⟨(some 49), (some (48, true)), .faddr 3, [.slot 1], none⟩,
 ⟨(some 50), (some (48, true)), .load 1 false, [.slot 49], none⟩,
 ⟨(some 51), (some (48, true)), .bin .eql, [.slot 50, .val (.str ⟨#[]⟩)], none⟩,
 ⟨(some 52), none, .pick, [.slot 48, .slot 51, .val (.bool false)], none⟩,
 ⟨(some 53), none, .id, [.slot 52], none⟩,
 ⟨(some 54), (some (53, true)), .id, [.slot 6], none⟩,
 ⟨(some 55), none, .pick, [.slot 53, .slot 54, .val (.bool false)], none⟩,
 ⟨(some 2), none, .id, [.slot 55], none⟩])
 (.ret))
 (.seq
 (.region [
 ⟨(some 57), none, .bin .eql, [.slot 20, .val (.int .i64 3)], none⟩,
 ⟨(some 56), none, .id, [.slot 57], none⟩])
 (.cond (.slot 56)
 (.seq
 (.region [
 ⟨(some 58), none, .id, [.slot 3], none⟩,
 ⟨(some 59), none, .id, [.slot 58], none⟩,
 ⟨(some 60), (some (59, true)), .id, [.slot 4], none⟩,
 ⟨(some 61), none, .pick, [.slot 59, .slot 60, .val (.bool false)], none⟩,
 ⟨(some 62), none, .id, [.slot 61], none⟩,
 ⟨(some 63), (some (62, true)), .id, [.slot 5], none⟩,
 ⟨(some 64), none, .pick, [.slot 62, .slot 63, .val (.bool false)], none⟩,
 ⟨(some 65), none, .id, [.slot 64], none⟩,
 ⟨(some 66), (some (65, true)), .faddr 4, [.slot 1], none⟩,
 ⟨(some 67), (some (65, true)), .load 1 false, [.slot 66], none⟩,
 ⟨(some 68), (some (65, true)), .bin .eql, [.slot 67, .val (.str ⟨#[]⟩)], none⟩,
 ⟨(some 69), none, .pick, [.slot 65, .slot 68, .val (.bool false)], none⟩,
 ⟨(some 2), none, .id, [.slot 69], none⟩])
 (.ret))
 (.seq
 (.region [
 ⟨(some 71), none, .bin .eql, [.slot 20, .val (.int .i64 5)], none⟩,
 ⟨(some 70), none, .id, [.slot 71], none⟩])
 (.cond (.slot 70)
 (.seq
 (.region [
 ⟨(some 72), none, .id, [.slot 3], none⟩,
 ⟨(some 73), none, .id, [.slot 72], none⟩,
 ⟨(some 74), (some (73, true)), .id, [.slot 4], none⟩,
 ⟨(some 75), none, .pick, [.slot 73, .slot 74, .val (.bool false)], none⟩,
 ⟨(some 76), none, .id, [.slot 75], none⟩,
 ⟨(some 77), (some (76, true)), .id, [.slot 5], none⟩,
 ⟨(some 78), none, .pick, [.slot 76, .slot 77, .val (.bool false)], none⟩,
 ⟨(some 79), none, .id, [.slot 78], none⟩,
 ⟨(some 80), (some (79, true)), .id, [.slot 6], none⟩,
 ⟨(some 81), none, .pick, [.slot 79, .slot 80, .val (.bool false)], none⟩,
 ⟨(some 2), none, .id, [.slot 81], none⟩])
 (.ret))
 (.skip)))))))))))
 (.seq
 (.region [
 ⟨(some 2), none, .id, [.val (.bool false)], none⟩])
 (.ret))))
def F_hedgerowref01_Elem : IFun := ⟨82, [.slot 2], b_hedgerowref01_Elem, 6, 0, nofn⟩
theorem c_hedgerowref01_Elem : cFun Tryz.prog [1048577] 0 f_hedgerowref01_Elem = some F_hedgerowref01_Elem := by kernel_rfl

def b_hedgerowref01_Right : ICode :=
 .seq
 (.region [
 ⟨(some 1), none, .boxL, [.slot 0], none⟩,
 ⟨(some 2), none, .id, [.val (.bool false)], none⟩])
 (.seq
 (.seq
 (.region [
 ⟨(some 5), none, .faddr 0, [.slot 1], none⟩,
 ⟨(some 6), none, .load 1 false, [.slot 5], none⟩])
 (.block 0
 (.seq
 (.region [
 ⟨(some 8), none, .bin .eql, [.slot 6, .val (.int .i64 0)], none⟩,
 ⟨(some 7), none, .id, [.slot 8], none⟩])
 (.cond (.slot 7)
 (.seq
 (.region [
 ⟨(some 9), none, .faddr 1, [.slot 1], none⟩,
 ⟨(some 10), none, .load 1 false, [.slot 9], none⟩,
 ⟨(some 11), none, .bin .eql, [.slot 10, .val (.int .i64 0)], none⟩,
 ⟨(some 12), none, .id, [.slot 11], none⟩,
 ⟨(some 13), (some (12, true)), .faddr 2, [.slot 1], none⟩,
 ⟨(some 14), (some (12, true)), .load 1 false, [.slot 13], none⟩,
 ⟨(some 15), (some (12, true)), .bin .eql, [.slot 14, .val (.str ⟨#[]⟩)], none⟩,
 ⟨(some 16), none, .pick, [.slot 12, .slot 15, .val (.bool false)], none⟩,
 ⟨(some 2), none, .id, [.slot 16], none⟩])
 (.ret))
 (.seq
 (.region [
 ⟨(some 18), none, .bin .eql, [.slot 6, .val (.int .i64 1)], none⟩,
 ⟨(some 17), none, .id, [.slot 18], none⟩])
 (.cond (.slot 17)
 (.seq
 (.region [
 ⟨(some 19), none, .faddr 1, [.slot 1], none⟩,
 ⟨(some 20), none, .load 1 false, [.slot 19], none⟩,
 ⟨(some 21), none, .bin .eql, [.slot 20, .val (.int .i64 0)], none⟩,
 ⟨(some 22), none, .id, [.slot 21], none⟩,
 ⟨(some 23), (some (22, false)), .faddr 1, [.slot 1], none⟩,
 ⟨(some 24), (some (22, false)), .load 1 false, [.slot 23], none⟩,
 ⟨(some 25), (some (22, false)), .bin .eql, [.slot 24, .val (.int .i64 1)], none⟩,
 ⟨(some 26), none, .pick, [.slot 22, .val (.bool true), .slot 25], none⟩,
 ⟨(some 27), none, .id, [.slot 26], none⟩,
 ⟨(some 28), (some (27, true)), .faddr 2, [.slot 1], none⟩,
 ⟨(some 29), (some (27, true)), .load 1 false, [.slot 28], none⟩,
 ⟨(some 30), (some (27, true)), .bin .eql, [.slot 29, .val (.str ⟨#[]⟩)], none⟩,
 ⟨(some 31), none, .pick, [.slot 27, .slot 30, .val (.bool false)], none⟩,
 ⟨(some 2), none, .id, [.slot 31], none⟩])
 (.ret))
 (.seq
 (.region [
 ⟨(some 33), none, .bin .eql, [.slot 6, .val (.int .i64 2)], none⟩,
 ⟨(some 32), none, .id, [.slot 33], none⟩])
 (.cond (.slot 32)
 (.seq
 (.region [
 ⟨(some 34), none, .faddr 1, [.slot 1], none⟩,
 ⟨(some 35), none, .load 1 false, [.slot 34], none⟩,
 ⟨(some 36), none, .bin .geq, [.slot 35, .val (.int .i64 (-1099511627776))], none⟩,
 ⟨(some 37), none, .id, [.slot 36], none⟩,
 ⟨(some 38), (some (37, true)), .faddr 1, [.slot 1], none⟩,
 ⟨(some 39), (some (37, true)), .load 1 false, [.slot 38], none⟩,
 ⟨(some 40), (some (37, true)), .bin .leq, [.slot 39, .val (.int .i64 1099511627776)], none⟩,
 ⟨(some 41), none, .pick, [.slot 37, .slot 40, .val (.bool false)], none⟩,
 ⟨(some 42), none, .id, [.slot 41], none⟩,
 ⟨(some 43), (some (42, true)), .faddr 2, [.slot 1], none⟩,
 ⟨(some 44), (some (42, true)), .load 1 false, [.slot 43], none⟩,
 ⟨(some 45), (some (42, true)), .bin .eql, [.slot 44, .val (.str ⟨#[]⟩)], none⟩,
 ⟨(some 46), none, .pick, [.slot 42, .slot 45, .val (.bool false)], none⟩,
 ⟨(some 2), none, .id, [.slot 46], none⟩])
 (.ret))
 (.seq
 (.region [
 ⟨(some 48), none, .bin .eql, [.slot 6, .val (.int .i64 3)], none⟩,
 ⟨(some 47), none, .id, [.slot 48], none⟩])
 (.cond (.slot 47)
 (.seq
 (.region [
 ⟨(some 49), none, .faddr 1, [.slot 1], none⟩,
 ⟨(some 50), none, .load 1 false, [.slot 49], none⟩,
 ⟨(some 51), none, .bin .eql, [.slot 50, .val (.int .i64 0)], none⟩,
 ⟨(some 52), none, .id, [.slot 51], none⟩,
 ⟨(some 53), (some (52, true)), .faddr 2, [.slot 1], none⟩,
 ⟨(some 54), (some (52, true)), .load 1 false, [.slot 53], none⟩,
 ⟨(some 55), (some (52, true)), .call f_hedgerowref01_plain, [.slot 54], none⟩,
 ⟨(some 56), none, .pick, [.slot 52, .slot 55, .val (.bool false)], none⟩,
 ⟨(some 2), none, .id, [.slot 56], none⟩])
 (.ret))
 (.seq
 (.region [
 ⟨(some 58), none, .bin .eql, [.slot 6, .val (.int .i64 4)], none⟩,
 ⟨(some 57), none, .id, [.slot 58], none⟩])
 (.cond (.slot 57)
 (.seq
 (.region [
 ⟨(some 59), none, .faddr 1, [.slot 1], none⟩,
 ⟨(some 60), none, .load 1 false, [.slot 59], none⟩,
 ⟨(some 61), none, .bin .eql, [.slot 60, .val (.int .i64 0)], none⟩,
 ⟨(some 62), none, .id, [.slot 61], none⟩,
 ⟨(some 63), (some (62, true)), .faddr 2, [.slot 1], none⟩,
 ⟨(some 64), (some (62, true)), .load 1 false, [.slot 63], none⟩,
 ⟨(some 65), (some (62, true)), .call f_hedgerowref01_Name, [.slot 64], none⟩,
 ⟨(some 66), none, .pick, [.slot 62, .slot 65, .val (.bool false)], none⟩,
 ⟨(some 2), none, .id, [.slot 66], none⟩])
 (.ret))
 (.seq
 (.region [
 ⟨(some 68), none, .bin .eql, [.slot 6, .val (.int .i64 5)], none⟩,
 ⟨(some 67), none, .id, [.slot 68], none⟩])
 (.cond (.slot 67)
 (.seq
 (.region [
 ⟨(some 70), none, .faddr 2, [.slot 1], none⟩,
 ⟨(some 71), none, .load 1 false, [.slot 70], none⟩,
 ⟨(some 72), none, .call f_hedgerowref01_Link, [.slot 71], none⟩,
 ⟨(some 69), none, .id, [.slot 72], none⟩,
 ⟨(some 73), none, .extract 0, [.slot 69], none⟩,
 ⟨(some 74), none, .extract 1, [.slot 69], none⟩,
 ⟨(some 3), none, .allocL [(.str ⟨#[]⟩), (.str ⟨#[]⟩), (.str ⟨#[]⟩)], [], none⟩,
 ⟨none, none, .store 3, [.slot 3, .slot 73], none⟩,
 ⟨(some 4), none, .id, [.slot 74], none⟩])
 (.seq
 (.region [
 ⟨(some 75), none, .faddr 1, [.slot 1], none⟩,
 ⟨(some 76), none, .load 1 false, [.slot 75], none⟩,
 ⟨(some 77), none, .bin .eql, [.slot 76, .val (.int .i64 0)], none⟩,
 ⟨(some 78), none, .id, [.slot 77], none⟩,
 ⟨(some 79), (some (78, true)), .id, [.slot 4], none⟩,
 ⟨(some 80), none, .pick, [.slot 78, .slot 79, .val (.bool false)], none⟩,
 ⟨(some 2), none, .id, [.slot 80], none⟩])
 (.ret)))
 (.skip)))))))))))))))
 (.seq
 (.region [
 ⟨(some 2), none, .id, [.val (.bool false)], none⟩])
 (.ret)))
def F_hedgerowref01_Right : IFun := ⟨81, [.slot 2], b_hedgerowref01_Right, 6, 0, nofn⟩
theorem c_hedgerowref01_Right : cFun Tryz.prog [1048577, 1048579, 2097325] 0 f_hedgerowref01_Right = some F_hedgerowref01_Right := by kernel_rfl

def b_snap_item_1 : ICode :=
 .seq
 (.region [
 ⟨(some 2), none, .boxL, [.slot 0], none⟩,
 ⟨(some 3), none, .id, [.val (.bool false)], none⟩])
 (.seq
 (.region [
 ⟨(some 4), none, .load 16 true, [.slot 1], none⟩,
 ⟨(some 5), none, .faddr 0, [.slot 2], none⟩,
 ⟨(some 6), none, .load 2 true, [.slot 5], none⟩,
 ⟨(some 7), none, .call f_vector_Knows, [.slot 4, .slot 6], none⟩,
 ⟨(some 8), none, .un .not, [.slot 7], none⟩,
 ⟨(some 3), none, .id, [.slot 8], none⟩])
 (.ret))
def F_snap_item_1 : IFun := ⟨9, [.slot 3], b_snap_item_1, 6, 0, nofn⟩
theorem c_snap_item_1 : cFun Tryz.prog [1048578] 0 f_snap_item_1 = some F_snap_item_1 := by kernel_rfl

def b_slices_ContainsFuncstore_Entrystore_Entry : ICode :=
 .seq
 (.region [
 ⟨(some 4), none, .id, [.val (.bool false)], none⟩])
 (.seq
 (.region [
 ⟨(some 5), none, .id, [.slot 0], none⟩,
 ⟨(some 6), none, .id, [.slot 1], none⟩,
 ⟨(some 7), none, .call f_slices_IndexFuncstore_Entrystore_Entry, [.slot 5, .slot 6], none⟩,
 ⟨(some 8), none, .bin .geq, [.slot 7, .val (.int .i64 0)], none⟩,
 ⟨(some 4), none, .id, [.slot 8], none⟩])
 (.ret))
def F_slices_ContainsFuncstore_Entrystore_Entry : IFun := ⟨9, [.slot 4], b_slices_ContainsFuncstore_Entrystore_Entry, 6, 0, nofn⟩
theorem c_slices_ContainsFuncstore_Entrystore_Entry : cFun Tryz.prog [] 0 f_slices_ContainsFuncstore_Entrystore_Entry = some F_slices_ContainsFuncstore_Entrystore_Entry := by kernel_rfl

def L0_cmp_Orint : ICode :=
 .seq
 (.region [
 ⟨(some 9), none, .bin .lss, [.slot 8, .slot 7], none⟩])
 (.seq
 (.cond (.slot 9)
 (.skip)
 (.exit 0))
 (.seq
 (.block 1
 (.seq
 (.region [
 ⟨(some 10), none, .ixaddr 1, [.slot 6, .slot 8], none⟩,
 ⟨(some 11), none, .load 1 false, [.slot 10], none⟩,
 ⟨(some 5), none, .id, [.slot 11], none⟩])
 (.seq
 (.region [
 ⟨(some 12), none, .id, [.slot 5], none⟩,
 ⟨(some 13), none, .id, [.slot 3], none⟩,
 ⟨(some 14), none, .bin .neq, [.slot 12, .slot 13], none⟩])
 (.cond (.slot 14)
 (.seq
 (.region [
 ⟨(some 15), none, .id, [.slot 5], none⟩,
 ⟨(some 2), none, .id, [.slot 15], none⟩])
 (.ret))
 (.skip)))))
 (.region [
 ⟨(some 16), none, .bin .add, [.slot 8, .val (.int .i64 1)], none⟩,
 ⟨(some 8), none, .id, [.slot 16], none⟩])))
def b_cmp_Orint : ICode :=
 .seq
 (.region [
 ⟨(some 2), none, .id, [.val (.int .i64 0)], none⟩])
 (.seq
 (.region [
 ⟨(some 3), none, .id, [.val (.int .i64 0)], none⟩])
 (.seq
 (.seq
 (.region [
 ⟨(some 6), none, .id, [.slot 0], none⟩,
 ⟨(some 7), none, .lensl, [.slot 6], none⟩,
 ⟨(some 8), none, .id, [.val (.int .i64 0)], none⟩])
 (.block 0
 (.loop L0_cmp_Orint)))
 (.seq
 (.region [
 ⟨(some 17), none, .id, [.slot 3], none⟩,
 ⟨(some 2), none, .id, [.slot 17], none⟩])
 (.ret))))
def F_cmp_Orint : IFun := ⟨18, [.slot 2], b_cmp_Orint, 6, 0, nofn⟩
theorem c_cmp_Orint : cFun Tryz.prog [] 0 f_cmp_Orint = some F_cmp_Orint := by kernel_rfl

def b_cmp_Compareint : ICode :=
 .seq
 (.region [
 ⟨(some 4), none, .id, [.val (.int .i64 0)], none⟩])
 (.seq
 (.region [
 ⟨(some 7), none, .id, [.slot 0], none⟩,
 ⟨(some 8), none, .call f_cmp_isNaNint, [.slot 7], none⟩,
 ⟨(some 5), none, .id, [.slot 8], none⟩])
 (.seq
 (.region [
 ⟨(some 9), none, .id, [.slot 1], none⟩,
 ⟨(some 10), none, .call f_cmp_isNaNint, [.slot 9], none⟩,
 ⟨(some 6), none, .id, [.slot 10], none⟩])
 (.seq
 (.seq
 (.region [
 ⟨(some 11), none, .id, [.slot 5], none⟩])
 (.cond (.slot 11)
 (.seq
 (.seq
 (.region [
 ⟨(some 12), none, .id, [.slot 6], none⟩])
 (.cond (.slot 12)
 (.seq
 (.region [
 ⟨(some 4), none, .id, [.val (.int .i64 0)], none⟩])
 (.ret))
 (.skip)))
 (.seq
 (.region [
 ⟨(some 4), none, .id, [.val (.int .i64 (-1))], none⟩])
 (.ret)))
 (.skip)))
 (.seq
 (.seq
 (.region [
 ⟨(some 13), none, .id, [.slot 6], none⟩])
 (.cond (.slot 13)
 (.seq
 (.region [
 ⟨(some 4), none, .id, [.val (.int .i64 1)], none⟩])
 (.ret))
 (.skip)))
 (.seq
 (.seq
 (.region [
 ⟨(some 14), none, .id, [.slot 0], none⟩,
 ⟨(some 15), none, .id, [.slot 1], none⟩,
 ⟨(some 16), none, .bin .lss, [.slot 14, .slot 15], none⟩])
 (.cond (.slot 16)
 (.seq
 (.region [
 ⟨(some 4), none, .id, [.val (.int .i64 (-1))], none⟩])
 (.ret))
 (.skip)))
 (.seq
 (.seq
 (.region [
 ⟨(some 17), none, .id, [.slot 0], none⟩,
 ⟨(some 18), none, .id, [.slot 1], none⟩,
 ⟨(some 19), none, .bin .gtr, [.slot 17, .slot 18], none⟩])
 (.cond (.slot 19)
 (.seq
 (.region [
 ⟨(some 4), none, .id, [.val (.int .i64 1)], none⟩])
 (.ret))
 (.skip)))
 (.seq
 (.region [
 ⟨(some 4), none, .id, [.val (.int .i64 0)], none⟩])
 (.ret))))))))
def F_cmp_Compareint : IFun := ⟨20, [.slot 4], b_cmp_Compareint, 6, 0, nofn⟩
theorem c_cmp_Compareint : cFun Tryz.prog [] 0 f_cmp_Compareint = some F_cmp_Compareint := by kernel_rfl

def b_cmp_Comparestring : ICode :=
 .seq
 (.region [
 ⟨(some 4), none, .id, [.val (.int .i64 0)], none⟩])
 (.seq
 (.region [
 ⟨(some 7), none, .id, [.slot 0], none⟩,
 ⟨(some 8), none, .call f_cmp_isNaNstring, [.slot 7], none⟩,
 ⟨(some 5), none, .id, [.slot 8], none⟩])
 (.seq
 (.region [
 ⟨(some 9), none, .id, [.slot 1], none⟩,
 ⟨(some 10), none, .call f_cmp_isNaNstring, [.slot 9], none⟩,
 ⟨(some 6), none, .id, [.slot 10], none⟩])
 (.seq
 (.seq
 (.region [
 ⟨(some 11), none, .id, [.slot 5], none⟩])
 (.cond (.slot 11)
 (.seq
 (.seq
 (.region [
 ⟨(some 12), none, .id, [.slot 6], none⟩])
 (.cond (.slot 12)
 (.seq
 (.region [
 ⟨(some 4), none, .id, [.val (.int .i64 0)], none⟩])
 (.ret))
 (.skip)))
 (.seq
 (.region [
 ⟨(some 4), none, .id, [.val (.int .i64 (-1))], none⟩])
 (.ret)))
 (.skip)))
 (.seq
 (.seq
 (.region [
 ⟨(some 13), none, .id, [.slot 6], none⟩])
 (.cond (.slot 13)
 (.seq
 (.region [
 ⟨(some 4), none, .id, [.val (.int .i64 1)], none⟩])
 (.ret))
 (.skip)))
 (.seq
 (.seq
 (.region [
 ⟨(some 14), none, .id, [.slot 0], none⟩,
 ⟨(some 15), none, .id, [.slot 1], none⟩,
 ⟨(some 16), none, .bin .lss, [.slot 14, .slot 15], none⟩])
 (.cond (.slot 16)
 (.seq
 (.region [
 ⟨(some 4), none, .id, [.val (.int .i64 (-1))], none⟩])
 (.ret))
 (.skip)))
 (.seq
 (.seq
 (.region [
 ⟨(some 17), none, .id, [.slot 0], none⟩,
 ⟨(some 18), none, .id, [.slot 1], none⟩,
 ⟨(some 19), none, .bin .gtr, [.slot 17, .slot 18], none⟩])
 (.cond (.slot 19)
 (.seq
 (.region [
 ⟨(some 4), none, .id, [.val (.int .i64 1)], none⟩])
 (.ret))
 (.skip)))
 (.seq
 (.region [
 ⟨(some 4), none, .id, [.val (.int .i64 0)], none⟩])
 (.ret))))))))
def F_cmp_Comparestring : IFun := ⟨20, [.slot 4], b_cmp_Comparestring, 6, 0, nofn⟩
theorem c_cmp_Comparestring : cFun Tryz.prog [] 0 f_cmp_Comparestring = some F_cmp_Comparestring := by kernel_rfl

def b_vector_Next : ICode :=
 .seq
 (.region [
 ⟨(some 2), none, .boxL, [.slot 0], none⟩,
 ⟨(some 3), none, .boxL, [.slot 1], none⟩,
 ⟨(some 4), none, .id, [.val (.bool false)], none⟩])
 (.seq
 (.region [
 ⟨(some 5), none, .load 2 true, [.slot 3], (some (.loc 3))⟩,
 ⟨(some 6), none, .call f_vector_Dot, [.slot 5], none⟩,
 ⟨(some 7), none, .id, [.slot 6], none⟩,
 ⟨(some 8), (some (7, true)), .faddr 0, [.slot 3], none⟩,
 ⟨(some 9), (some (7, true)), .load 1 false, [.slot 8], (some (.loc 3))⟩,
 ⟨(some 10), (some (7, true)), .ixaddrA 16 1, [.slot 2, .slot 9], none⟩,
 ⟨(some 11), (some (7, true)), .load 1 false, [.slot 10], (some (.loc 2))⟩,
 ⟨(some 12), (some (7, true)), .faddr 1, [.slot 3], none⟩,
 ⟨(some 13), (some (7, true)), .load 1 false, [.slot 12], (some (.loc 3))⟩,
 ⟨(some 14), (some (7, true)), .bin .sub, [.slot 13, .val (.int .i64 1)], none⟩,
 ⟨(some 15), (some (7, true)), .bin .eql, [.slot 11, .slot 14], none⟩,
 ⟨(some 16), none, .pick, [.slot 7, .slot 15, .val (.bool false)], none⟩,
 ⟨(some 4), none, .id, [.slot 16], none⟩])
 (.ret))
def F_vector_Next : IFun := ⟨17, [.slot 4], b_vector_Next, 6, 0, nofn⟩
theorem c_vector_Next : cFun Tryz.prog [1048578, 1048579] 0 f_vector_Next = some F_vector_Next := by kernel_rfl

def b_event_Change : ICode :=
 .seq
 (.region [
 ⟨(some 1), none, .boxL, [.slot 0], none⟩,
 ⟨(some 2), none, .id, [.val (.int .i64 0)], none⟩])
 (.seq
 (.seq
 (.region [
 ⟨(some 3), none, .load 9 true, [.slot 1], none⟩,
 ⟨(some 4), none, .call f_event_may, [.slot 3], none⟩,
 ⟨(some 5), none, .un .not, [.slot 4], none⟩])
 (.cond (.slot 5)
 (.seq
 (.region [
 ⟨(some 2), none, .id, [.val (.int .i64 1)], none⟩])
 (.ret))
 (.skip)))
 (.seq
 (.region [
 ⟨(some 2), none, .id, [.val (.int .i64 0)], none⟩])
 (.ret)))
def F_event_Change : IFun := ⟨6, [.slot 2], b_event_Change, 6, 0, nofn⟩
theorem c_event_Change : cFun Tryz.prog [1048577] 0 f_event_Change = some F_event_Change := by kernel_rfl

def b_event_Of : ICode :=
 .seq
 (.region [
 ⟨(some 1), none, .boxL, [.slot 0], none⟩,
 ⟨(some 2), none, .allocL [(.int .i64 0), (.int .i64 0), (.str ⟨#[]⟩), (.str ⟨#[]⟩), (.str ⟨#[]⟩), (.str ⟨#[]⟩), (.int .i64 0), (.int .i64 0), (.str ⟨#[]⟩)], [], none⟩])
 (.seq
 (.region [
 ⟨(some 3), none, .faddr 18, [.slot 1], none⟩,
 ⟨(some 4), none, .load 1 false, [.slot 3], none⟩,
 ⟨(some 5), none, .faddr 19, [.slot 1], none⟩,
 ⟨(some 6), none, .load 5 true, [.slot 5], none⟩,
 ⟨(some 7), none, .faddr 24, [.slot 1], none⟩,
 ⟨(some 8), none, .load 3 true, [.slot 7], none⟩,
 ⟨(some 9), none, .build [(.int .i64 0), (.int .i64 0), (.str ⟨#[]⟩), (.str ⟨#[]⟩), (.str ⟨#[]⟩), (.str ⟨#[]⟩), (.int .i64 0), (.int .i64 0), (.str ⟨#[]⟩)] [(0, 1), (1, 5), (6, 3)], [.slot 4, .slot 6, .slot 8], none⟩,
 ⟨none, none, .store 9, [.slot 2, .slot 9], none⟩])
 (.ret))
def F_event_Of : IFun := ⟨10, [.cell 2 9 true], b_event_Of, 6, 0, nofn⟩
theorem c_event_Of : cFun Tryz.prog [1048577, 1048578] 0 f_event_Of = some F_event_Of := by kernel_rfl

def b_vector_Dot : ICode :=
 .seq
 (.region [
 ⟨(some 1), none, .boxL, [.slot 0], none⟩,
 ⟨(some 2), none, .id, [.val (.bool false)], none⟩])
 (.seq
 (.region [
 ⟨(some 3), none, .faddr 0, [.slot 1], none⟩,
 ⟨(some 4), none, .load 1 false, [.slot 3], none⟩,
 ⟨(some 5), none, .bin .geq, [.slot 4, .val (.int .i64 0)], none⟩,
 ⟨(some 6), none, .id, [.slot 5], none⟩,
 ⟨(some 7), (some (6, true)), .faddr 0, [.slot 1], none⟩,
 ⟨(some 8), (some (6, true)), .load 1 false, [.slot 7], none⟩,
 ⟨(some 9), (some (6, true)), .bin .lss, [.slot 8, .val (.int .i64 16)], none⟩,
 ⟨(some 10), none, .pick, [.slot 6, .slot 9, .val (.bool false)], none⟩,
 ⟨(some 11), none, .id, [.slot 10], none⟩,
 ⟨(some 12), (some (11, true)), .faddr 1, [.slot 1], none⟩,
 ⟨(some 13), (some (11, true)), .load 1 false, [.slot 12], none⟩,
 ⟨(some 14), (some (11, true)), .bin .geq, [.slot 13, .val (.int .i64 1)], none⟩,
 ⟨(some 15), none, .pick, [.slot 11, .slot 14, .val (.bool false)], none⟩,
 ⟨(some 16), none, .id, [.slot 15], none⟩,
 ⟨(some 17), (some (16, true)), .faddr 1, [.slot 1], none⟩,
 ⟨(some 18), (some (16, true)), .load 1 false, [.slot 17], none⟩,
 ⟨(some 19), (some (16, true)), .bin .leq, [.slot 18, .val (.int .i64 1048576)], none⟩,
 ⟨(some 20), none, .pick, [.slot 16, .slot 19, .val (.bool false)], none⟩,
 ⟨(some 2), none, .id, [.slot 20], none⟩])
 (.ret))
def F_vector_Dot : IFun := ⟨21, [.slot 2], b_vector_Dot, 6, 0, nofn⟩
theorem c_vector_Dot : cFun Tryz.prog [1048577] 0 f_vector_Dot = some F_vector_Dot := by kernel_rfl

def L0_num_take : ICode :=
 .seq
 (.region [
 ⟨(some 14), none, .bin .lss, [.slot 13, .slot 12], none⟩])
 (.seq
 (.cond (.slot 14)
 (.skip)
 (.exit 0))
 (.seq
 (.block 1
 (.seq
 (.region [
 ⟨(some 15), none, .id, [.slot 13], none⟩,
 ⟨(some 16), none, .ixaddr 1, [.slot 11, .slot 13], none⟩,
 ⟨(some 17), none, .load 1 false, [.slot 16], none⟩,
 ⟨(some 5), none, .id, [.slot 15], none⟩,
 ⟨(some 6), none, .id, [.slot 17], none⟩])
 (.seq
 (.region [
 ⟨(some 18), none, .id, [.slot 4], none⟩,
 ⟨(some 19), none, .id, [.slot 6], none⟩,
 ⟨(some 20), none, .bin .and, [.slot 19, .val (.int .u8 127)], none⟩,
 ⟨(some 21), none, .conv .u64, [.slot 20], none⟩,
 ⟨(some 22), none, .id, [.slot 5], none⟩,
 ⟨(some 23), none, .bin .mul, [.val (.int .i64 7), .slot 22], none⟩,
 ⟨(some 24), none, .conv .u64, [.slot 23], none⟩,
 ⟨(some 25), none, .bin .shl, [.slot 21, .slot 24], none⟩,
 ⟨(some 26), none, .bin .or, [.slot 18, .slot 25], none⟩,
 ⟨(some 4), none, .id, [.slot 26], none⟩])
 (.seq
 (.region [
 ⟨(some 27), none, .id, [.slot 6], none⟩,
 ⟨(some 28), none, .bin .lss, [.slot 27, .val (.int .u8 128)], none⟩])
 (.cond (.slot 28)
 (.seq
 (.seq
 (.region [
 ⟨(some 29), none, .id, [.slot 6], none⟩,
 ⟨(some 30), none, .bin .eql, [.slot 29, .val (.int .u8 0)], none⟩,
 ⟨(some 31), none, .id, [.slot 30], none⟩,
 ⟨(some 32), (some (31, true)), .id, [.slot 5], none⟩,
 ⟨(some 33), (some (31, true)), .bin .gtr, [.slot 32, .val (.int .i64 0)], none⟩,
 ⟨(some 34), none, .pick, [.slot 31, .slot 33, .val (.bool false)], none⟩,
 ⟨(some 35), none, .id, [.slot 34], none⟩,
 ⟨(some 36), (some (35, false)), .id, [.slot 4], none⟩,
 ⟨(some 37), (some (35, false)), .bin .gtr, [.slot 36, .val (.int .u64 4611686018427387903)], none⟩,
 ⟨(some 38), none, .pick, [.slot 35, .val (.bool true), .slot 37], none⟩])
 (.cond (.slot 38)
 (.seq
 (.region [
 ⟨(some 2), none, .id, [.val (.int .i64 0)], none⟩,
 ⟨(some 3), none, .id, [.val (.int .i64 0)], none⟩])
 (.ret))
 (.skip)))
 (.seq
 (.region [
 ⟨(some 39), none, .id, [.slot 4], none⟩,
 ⟨(some 40), none, .conv .i64, [.slot 39], none⟩,
 ⟨(some 41), none, .id, [.slot 5], none⟩,
 ⟨(some 42), none, .bin .add, [.slot 41, .val (.int .i64 1)], none⟩,
 ⟨(some 2), none, .id, [.slot 40], none⟩,
 ⟨(some 3), none, .id, [.slot 42], none⟩])
 (.ret)))
 (.skip))))))
 (.region [
 ⟨(some 43), none, .bin .add, [.slot 13, .val (.int .i64 1)], none⟩,
 ⟨(some 13), none, .id, [.slot 43], none⟩])))
def b_num_take : ICode :=
 .seq
 (.region [
 ⟨(some 2), none, .id, [.val (.int .i64 0)], none⟩,
 ⟨(some 3), none, .id, [.val (.int .i64 0)], none⟩])
 (.seq
 (.region [
 ⟨(some 4), none, .id, [.val (.int .u64 0)], none⟩])
 (.seq
 (.seq
 (.region [
 ⟨(some 7), none, .id, [.slot 0], none⟩,
 ⟨(some 8), none, .id, [.slot 0], none⟩,
 ⟨(some 9), none, .lensl, [.slot 8], none⟩,
 ⟨(some 10), none, .minmax false, [.slot 9, .val (.int .i64 9)], none⟩,
 ⟨(some 11), none, .slsl 1 false true false, [.slot 7, .slot 10], none⟩,
 ⟨(some 12), none, .lensl, [.slot 11], none⟩,
 ⟨(some 13), none, .id, [.val (.int .i64 0)], none⟩])
 (.block 0
 (.loop L0_num_take)))
 (.seq
 (.region [
 ⟨(some 2), none, .id, [.val (.int .i64 0)], none⟩,
 ⟨(some 3), none, .id, [.val (.int .i64 0)], none⟩])
 (.ret))))
def F_num_take : IFun := ⟨44, [.slot 2, .slot 3], b_num_take, 6, 0, nofn⟩
theorem c_num_take : cFun Tryz.prog [] 0 f_num_take = some F_num_take := by kernel_rfl

def b_num_Reader_Text : ICode :=
 .seq
 (.region [
 ⟨(some 4), none, .id, [.val (.str ⟨#[]⟩)], none⟩])
 (.seq
 (.region [
 ⟨(some 7), none, .id, [.slot 0], none⟩,
 ⟨(some 8), none, .id, [.slot 1], none⟩,
 ⟨(some 9), none, .call f_num_Reader_Num, [.slot 7, .slot 8], none⟩,
 ⟨(some 5), none, .id, [.slot 9], none⟩])
 (.seq
 (.seq
 (.region [
 ⟨(some 10), none, .id, [.slot 0], none⟩,
 ⟨(some 11), none, .call f_num_Reader_Fail, [.slot 10], none⟩])
 (.cond (.slot 11)
 (.seq
 (.region [
 ⟨(some 4), none, .id, [.val (.str ⟨#[]⟩)], none⟩])
 (.ret))
 (.skip)))
 (.seq
 (.seq
 (.region [
 ⟨(some 12), none, .id, [.slot 5], none⟩,
 ⟨(some 13), none, .id, [.slot 0], none⟩,
 ⟨(some 14), none, .nilchk, [.slot 13], none⟩,
 ⟨(some 15), none, .faddr 0, [.slot 14], none⟩,
 ⟨(some 16), none, .load 1 false, [.slot 15], none⟩,
 ⟨(some 17), none, .lensl, [.slot 16], none⟩,
 ⟨(some 18), none, .bin .gtr, [.slot 12, .slot 17], none⟩])
 (.cond (.slot 18)
 (.seq
 (.region [
 ⟨(some 19), none, .id, [.slot 0], none⟩,
 ⟨(some 20), none, .nilchk, [.slot 19], none⟩,
 ⟨(some 21), none, .faddr 1, [.slot 20], none⟩,
 ⟨none, none, .store 1, [.slot 21, .val (.bool true)], none⟩])
 (.seq
 (.region [
 ⟨(some 4), none, .id, [.val (.str ⟨#[]⟩)], none⟩])
 (.ret)))
 (.skip)))
 (.seq
 (.region [
 ⟨(some 22), none, .id, [.slot 0], none⟩,
 ⟨(some 23), none, .nilchk, [.slot 22], none⟩,
 ⟨(some 24), none, .faddr 0, [.slot 23], none⟩,
 ⟨(some 25), none, .load 1 false, [.slot 24], none⟩,
 ⟨(some 26), none, .id, [.slot 5], none⟩,
 ⟨(some 27), none, .slsl 1 false true false, [.slot 25, .slot 26], none⟩,
 ⟨(some 28), none, .b2s, [.slot 27], none⟩,
 ⟨(some 6), none, .id, [.slot 28], none⟩])
 (.seq
 (.region [
 ⟨(some 29), none, .id, [.slot 0], none⟩,
 ⟨(some 30), none, .id, [.slot 0], none⟩,
 ⟨(some 31), none, .nilchk, [.slot 30], none⟩,
 ⟨(some 32), none, .faddr 0, [.slot 31], none⟩,
 ⟨(some 33), none, .load 1 false, [.slot 32], none⟩,
 ⟨(some 34), none, .id, [.slot 5], none⟩,
 ⟨(some 35), none, .slsl 1 true false false, [.slot 33, .slot 34], none⟩,
 ⟨(some 36), none, .nilchk, [.slot 29], none⟩,
 ⟨(some 37), none, .faddr 0, [.slot 36], none⟩,
 ⟨none, none, .store 1, [.slot 37, .slot 35], none⟩])
 (.seq
 (.region [
 ⟨(some 38), none, .id, [.slot 6], none⟩,
 ⟨(some 4), none, .id, [.slot 38], none⟩])
 (.ret)))))))
def F_num_Reader_Text : IFun := ⟨39, [.slot 4], b_num_Reader_Text, 6, 0, nofn⟩
theorem c_num_Reader_Text : cFun Tryz.prog [2097244] 0 f_num_Reader_Text = some F_num_Reader_Text := by kernel_rfl

def L0_snap_rowsstore_Entry : ICode :=
 .seq
 (.region [
 ⟨(some 9), none, .bin .lss, [.slot 8, .slot 7], none⟩])
 (.seq
 (.cond (.slot 9)
 (.skip)
 (.exit 0))
 (.seq
 (.block 1
 (.seq
 (.region [
 ⟨(some 10), none, .id, [.slot 5], none⟩,
 ⟨(some 11), none, .id, [.slot 1], none⟩,
 ⟨(some 12), none, .id, [.slot 0], none⟩,
 ⟨(some 13), none, .callv, [.slot 11, .slot 12], none⟩,
 ⟨(some 14), none, .buildSl 5 1 (.agg [(.int .i64 0), (.int .i64 0), (.int .i64 0), (.int .i64 0), (.str ⟨#[]⟩)]) [0], [.slot 13], none⟩,
 ⟨(some 15), none, .append 71 5 48, [.slot 10, .slot 14], none⟩,
 ⟨(some 5), none, .id, [.slot 15], none⟩])
 (.seq
 (.region [
 ⟨(some 16), none, .id, [.slot 0], none⟩,
 ⟨(some 17), none, .call f_num_Reader_Fail, [.slot 16], none⟩])
 (.cond (.slot 17)
 (.seq
 (.region [
 ⟨(some 4), none, .id, [.val .nilsl], none⟩])
 (.ret))
 (.skip)))))
 (.region [
 ⟨(some 18), none, .bin .add, [.slot 8, .val (.int .i64 1)], none⟩,
 ⟨(some 8), none, .id, [.slot 18], none⟩])))
def b_snap_rowsstore_Entry : ICode :=
 .seq
 (.region [
 ⟨(some 4), none, .id, [.val .nilsl], none⟩])
 (.seq
 (.region [
 ⟨(some 5), none, .id, [.val .nilsl], none⟩])
 (.seq
 (.seq
 (.region [
 ⟨(some 6), none, .id, [.slot 0], none⟩,
 ⟨(some 7), none, .call f_num_Reader_Num, [.slot 6, .val (.int .i64 100000)], none⟩,
 ⟨(some 8), none, .id, [.val (.int .i64 0)], none⟩])
 (.block 0
 (.loop L0_snap_rowsstore_Entry)))
 (.seq
 (.region [
 ⟨(some 19), none, .id, [.slot 5], none⟩,
 ⟨(some 4), none, .id, [.slot 19], none⟩])
 (.ret))))
def F_snap_rowsstore_Entry : IFun := ⟨20, [.slot 4], b_snap_rowsstore_Entry, 6, 0, nofn⟩
theorem c_snap_rowsstore_Entry : cFun Tryz.prog [2097244] 0 f_snap_rowsstore_Entry = some F_snap_rowsstore_Entry := by kernel_rfl

def b_snap_readEntry : ICode :=
 .seq
 (.region [
 ⟨(some 2), none, .allocL [(.int .i64 0), (.int .i64 0), (.int .i64 0), (.int .i64 0), (.str ⟨#[]⟩)], [], none⟩])
 (.seq
 (.region [
 ⟨(some 3), none, .id, [.slot 0], none⟩,
 ⟨(some 4), none, .call f_num_Reader_Num, [.slot 3, .val (.int .i64 4611686018427387903)], none⟩,
 ⟨(some 5), none, .id, [.slot 0], none⟩,
 ⟨(some 6), none, .call f_num_Reader_Num, [.slot 5, .val (.int .i64 4611686018427387903)], none⟩,
 ⟨(some 7), none, .faddr 0, [.slot 2], none⟩,
 ⟨(some 8), none, .faddr 0, [.slot 7], none⟩,
 ⟨none, none, .store 1, [.slot 8, .slot 4], none⟩,
 ⟨(some 9), none, .faddr 0, [.slot 2], none⟩,
 ⟨(some 10), none, .faddr 1, [.slot 9], none⟩,
 ⟨none, none, .store 1, [.slot 10, .slot 6], none⟩])
 (.seq
 (.region [
 ⟨(some 11), none, .id, [.slot 0], none⟩,
 ⟨(some 12), none, .call f_num_Reader_Num, [.slot 11, .val (.int .i64 4611686018427387903)], none⟩,
 ⟨(some 13), none, .faddr 2, [.slot 2], none⟩,
 ⟨(some 14), none, .faddr 0, [.slot 13], none⟩,
 ⟨none, none, .store 1, [.slot 14, .slot 12], none⟩])
 (.seq
 (.region [
 ⟨(some 15), none, .id, [.slot 0], none⟩,
 ⟨(some 16), none, .call f_num_Reader_Signed, [.slot 15], none⟩,
 ⟨(some 17), none, .faddr 2, [.slot 2], none⟩,
 ⟨(some 18), none, .faddr 1, [.slot 17], none⟩,
 ⟨none, none, .store 1, [.slot 18, .slot 16], none⟩])
 (.seq
 (.region [
 ⟨(some 19), none, .id, [.slot 0], none⟩,
 ⟨(some 20), none, .call f_num_Reader_Text, [.slot 19, .val (.int .i64 1048576)], none⟩,
 ⟨(some 21), none, .faddr 2, [.slot 2], none⟩,
 ⟨(some 22), none, .faddr 2, [.slot 21], none⟩,
 ⟨none, none, .store 1, [.slot 22, .slot 20], none⟩])
 (.seq
 (.region [
 ⟨(some 23), none, .load 5 true, [.slot 2], none⟩,
 ⟨none, none, .store 5, [.slot 2, .slot 23], none⟩])
 (.ret))))))
def F_snap_readEntry : IFun := ⟨24, [.cell 2 5 true], b_snap_readEntry, 6, 0, nofn⟩
theorem c_snap_readEntry : cFun Tryz.prog [1048578] 0 f_snap_readEntry = some F_snap_readEntry := by kernel_rfl

def L0_event_next : ICode :=
 .seq
 (.region [
 ⟨(some 17), none, .bin .lss, [.slot 16, .slot 15], none⟩])
 (.seq
 (.cond (.slot 17)
 (.skip)
 (.exit 0))
 (.seq
 (.block 1
 (.seq
 (.region [
 ⟨(some 18), none, .ixaddr 1, [.slot 14, .slot 16], none⟩,
 ⟨(some 19), none, .load 1 false, [.slot 18], none⟩,
 ⟨(some 4), none, .id, [.slot 19], none⟩])
 (.region [
 ⟨(some 20), none, .id, [.slot 4], none⟩,
 ⟨(some 21), none, .id, [.slot 0], none⟩,
 ⟨(some 22), none, .call f_num_Reader_Num, [.slot 21, .val (.int .i64 4611686018427387903)], none⟩,
 ⟨(some 23), none, .nilchk, [.slot 20], none⟩,
 ⟨none, none, .store 1, [.slot 23, .slot 22], none⟩])))
 (.region [
 ⟨(some 24), none, .bin .add, [.slot 16, .val (.int .i64 1)], none⟩,
 ⟨(some 16), none, .id, [.slot 24], none⟩])))
def L1_event_next : ICode :=
 .seq
 (.region [
 ⟨(some 26), none, .bin .lss, [.slot 25, .val (.int .i64 16)], none⟩])
 (.seq
 (.cond (.slot 26)
 (.skip)
 (.exit 2))
 (.seq
 (.block 3
 (.seq
 (.region [
 ⟨(some 27), none, .id, [.slot 25], none⟩,
 ⟨(some 5), none, .id, [.slot 27], none⟩])
 (.region [
 ⟨(some 28), none, .id, [.slot 5], none⟩,
 ⟨(some 29), none, .id, [.slot 0], none⟩,
 ⟨(some 30), none, .call f_num_Reader_Num, [.slot 29, .val (.int .i64 4611686018427387903)], none⟩,
 ⟨(some 31), none, .faddr 2, [.slot 2], none⟩,
 ⟨(some 32), none, .ixaddrA 16 1, [.slot 31, .slot 28], none⟩,
 ⟨none, none, .store 1, [.slot 32, .slot 30], none⟩])))
 (.region [
 ⟨(some 33), none, .bin .add, [.slot 25, .val (.int .i64 1)], none⟩,
 ⟨(some 25), none, .id, [.slot 33], none⟩])))
def L2_event_next : ICode :=
 .seq
 (.region [
 ⟨(some 40), none, .bin .lss, [.slot 39, .slot 38], none⟩])
 (.seq
 (.cond (.slot 40)
 (.skip)
 (.exit 4))
 (.seq
 (.block 5
 (.seq
 (.region [
 ⟨(some 41), none, .ixaddr 1, [.slot 37, .slot 39], none⟩,
 ⟨(some 42), none, .load 1 false, [.slot 41], none⟩,
 ⟨(some 7), none, .id, [.slot 42], none⟩])
 (.region [
 ⟨(some 43), none, .id, [.slot 7], none⟩,
 ⟨(some 44), none, .id, [.slot 0], none⟩,
 ⟨(some 45), none, .call f_num_Reader_Num, [.slot 44, .val (.int .i64 4611686018427387903)], none⟩,
 ⟨(some 46), none, .nilchk, [.slot 43], none⟩,
 ⟨none, none, .store 1, [.slot 46, .slot 45], none⟩])))
 (.region [
 ⟨(some 47), none, .bin .add, [.slot 39, .val (.int .i64 1)], none⟩,
 ⟨(some 39), none, .id, [.slot 47], none⟩])))
def L3_event_next : ICode :=
 .seq
 (.region [
 ⟨(some 59), none, .bin .lss, [.slot 58, .slot 57], none⟩])
 (.seq
 (.cond (.slot 59)
 (.skip)
 (.exit 6))
 (.seq
 (.block 7
 (.seq
 (.region [
 ⟨(some 60), none, .ixaddr 1, [.slot 56, .slot 58], none⟩,
 ⟨(some 61), none, .load 1 false, [.slot 60], none⟩,
 ⟨(some 9), none, .id, [.slot 61], none⟩])
 (.region [
 ⟨(some 62), none, .id, [.slot 9], none⟩,
 ⟨(some 63), none, .id, [.slot 0], none⟩,
 ⟨(some 64), none, .call f_num_Reader_Text, [.slot 63, .val (.int .i64 1048576)], none⟩,
 ⟨(some 65), none, .nilchk, [.slot 62], none⟩,
 ⟨none, none, .store 1, [.slot 65, .slot 64], none⟩])))
 (.region [
 ⟨(some 66), none, .bin .add, [.slot 58, .val (.int .i64 1)], none⟩,
 ⟨(some 58), none, .id, [.slot 66], none⟩])))
def b_event_next : ICode :=
 .seq
 (.region [
 ⟨(some 2), none, .allocH 49 [(.int .i64 0), (.int .i64 0), (.int .i64 0), (.int .i64 0), (.int .i64 0), (.int .i64 0), (.int .i64 0), (.int .i64 0), (.int .i64 0), (.int .i64 0), (.int .i64 0), (.int .i64 0), (.int .i64 0), (.int .i64 0), (.int .i64 0), (.int .i64 0), (.int .i64 0), (.int .i64 0), (.int .i64 0), (.int .i64 0), (.str ⟨#[]⟩), (.str ⟨#[]⟩), (.str ⟨#[]⟩), (.str ⟨#[]⟩), (.int .i64 0), (.int .i64 0), (.str ⟨#[]⟩)], [], none⟩])
 (.seq
 (.seq
 (.region [
 ⟨(some 10), none, .faddr 0, [.slot 2], none⟩,
 ⟨(some 11), none, .faddr 0, [.slot 10], none⟩,
 ⟨(some 12), none, .faddr 0, [.slot 2], none⟩,
 ⟨(some 13), none, .faddr 1, [.slot 12], none⟩,
 ⟨(some 14), none, .buildSl 1 2 .nilptr [0, 1], [.slot 11, .slot 13], none⟩,
 ⟨(some 15), none, .lensl, [.slot 14], none⟩,
 ⟨(some 16), none, .id, [.val (.int .i64 0)], none⟩])
 (.block 0
 (.loop L0_event_next)))
 (.seq
 (.seq
 (.region [
 ⟨(some 25), none, .id, [.val (.int .i64 0)], none⟩])
 (.block 2
 (.loop L1_event_next)))
 (.seq
 (.seq
 (.region [
 ⟨(some 34), none, .faddr 18, [.slot 2], none⟩,
 ⟨(some 35), none, .faddr 19, [.slot 2], none⟩,
 ⟨(some 36), none, .faddr 0, [.slot 35], none⟩,
 ⟨(some 37), none, .buildSl 1 2 .nilptr [0, 1], [.slot 34, .slot 36], none⟩,
 ⟨(some 38), none, .lensl, [.slot 37], none⟩,
 ⟨(some 39), none, .id, [.val (.int .i64 0)], none⟩])
 (.block 4
 (.loop L2_event_next)))
 (.seq
 (.seq
 (.region [
 ⟨(some 48), none, .faddr 19, [.slot 2], none⟩,
 ⟨(some 49), none, .faddr 1, [.slot 48], none⟩,
 ⟨(some 50), none, .faddr 19, [.slot 2], none⟩,
 ⟨(some 51), none, .faddr 2, [.slot 50], none⟩,
 ⟨(some 52), none, .faddr 19, [.slot 2], none⟩,
 ⟨(some 53), none, .faddr 3, [.slot 52], none⟩,
 ⟨(some 54), none, .faddr 19, [.slot 2], none⟩,
 ⟨(some 55), none, .faddr 4, [.slot 54], none⟩,
 ⟨(some 56), none, .buildSl 1 4 .nilptr [0, 1, 2, 3], [.slot 49, .slot 51, .slot 53, .slot 55], none⟩,
 ⟨(some 57), none, .lensl, [.slot 56], none⟩,
 ⟨(some 58), none, .id, [.val (.int .i64 0)], none⟩])
 (.block 6
 (.loop L3_event_next)))
 (.seq
 (.region [
 ⟨(some 67), none, .id, [.slot 0], none⟩,
 ⟨(some 68), none, .call f_num_Reader_Num, [.slot 67, .val (.int .i64 4611686018427387903)], none⟩,
 ⟨(some 69), none, .faddr 24, [.slot 2], none⟩,
 ⟨(some 70), none, .faddr 0, [.slot 69], none⟩,
 ⟨none, none, .store 1, [.slot 70, .slot 68], none⟩])
 (.seq
 (.region [
 ⟨(some 71), none, .id, [.slot 0], none⟩,
 ⟨(some 72), none, .call f_num_Reader_Signed, [.slot 71], none⟩,
 ⟨(some 73), none, .faddr 24, [.slot 2], none⟩,
 ⟨(some 74), none, .faddr 1, [.slot 73], none⟩,
 ⟨none, none, .store 1, [.slot 74, .slot 72], none⟩])
 (.seq
 (.region [
 ⟨(some 75), none, .id, [.slot 0], none⟩,
 ⟨(some 76), none, .call f_num_Reader_Text, [.slot 75, .val (.int .i64 1048576)], none⟩,
 ⟨(some 77), none, .faddr 24, [.slot 2], none⟩,
 ⟨(some 78), none, .faddr 2, [.slot 77], none⟩,
 ⟨none, none, .store 1, [.slot 78, .slot 76], none⟩])
 (.seq
 (.region [
 ⟨(some 79), none, .load 27 true, [.slot 2], none⟩,
 ⟨none, none, .store 27, [.slot 2, .slot 79], none⟩])
 (.ret)))))))))
def F_event_next : IFun := ⟨80, [.cell 2 27 true], b_event_next, 6, 0, nofn⟩
theorem c_event_next : cFun Tryz.prog [2] 0 f_event_next = some F_event_next := by kernel_rfl

def L0_slices_IndexFuncstore_Entrystore_Entry : ICode :=
 .seq
 (.region [
 ⟨(some 9), none, .bin .lss, [.slot 8, .slot 7], none⟩])
 (.seq
 (.cond (.slot 9)
 (.skip)
 (.exit 0))
 (.seq
 (.block 1
 (.seq
 (.region [
 ⟨(some 10), none, .id, [.slot 8], none⟩,
 ⟨(some 5), none, .id, [.slot 10], none⟩])
 (.seq
 (.region [
 ⟨(some 11), none, .id, [.slot 1], none⟩,
 ⟨(some 12), none, .id, [.slot 0], none⟩,
 ⟨(some 13), none, .id, [.slot 5], none⟩,
 ⟨(some 14), none, .ixaddr 5, [.slot 12, .slot 13], none⟩,
 ⟨(some 15), none, .load 5 true, [.slot 14], none⟩,
 ⟨(some 16), none, .callv, [.slot 11, .slot 15], none⟩])
 (.cond (.slot 16)
 (.seq
 (.region [
 ⟨(some 17), none, .id, [.slot 5], none⟩,
 ⟨(some 4), none, .id, [.slot 17], none⟩])
 (.ret))
 (.skip)))))
 (.region [
 ⟨(some 18), none, .bin .add, [.slot 8, .val (.int .i64 1)], none⟩,
 ⟨(some 8), none, .id, [.slot 18], none⟩])))
def b_slices_IndexFuncstore_Entrystore_Entry : ICode :=
 .seq
 (.region [
 ⟨(some 4), none, .id, [.val (.int .i64 0)], none⟩])
 (.seq
 (.seq
 (.region [
 ⟨(some 6), none, .id, [.slot 0], none⟩,
 ⟨(some 7), none, .lensl, [.slot 6], none⟩,
 ⟨(some 8), none, .id, [.val (.int .i64 0)], none⟩])
 (.block 0
 (.loop L0_slices_IndexFuncstore_Entrystore_Entry)))
 (.seq
 (.region [
 ⟨(some 4), none, .id, [.val (.int .i64 (-1))], none⟩])
 (.ret)))
def F_slices_IndexFuncstore_Entrystore_Entry : IFun := ⟨19, [.slot 4], b_slices_IndexFuncstore_Entrystore_Entry, 6, 0, nofn⟩
theorem c_slices_IndexFuncstore_Entrystore_Entry : cFun Tryz.prog [] 0 f_slices_IndexFuncstore_Entrystore_Entry = some F_slices_IndexFuncstore_Entrystore_Entry := by kernel_rfl

def L0_value_names : ICode :=
 .seq
 (.region [
 ⟨(some 8), none, .bin .lss, [.slot 7, .slot 6], none⟩])
 (.seq
 (.cond (.slot 8)
 (.skip)
 (.exit 0))
 (.seq
 (.block 1
 (.seq
 (.region [
 ⟨(some 9), none, .ixaddr 1, [.slot 5, .slot 7], none⟩,
 ⟨(some 10), none, .load 1 false, [.slot 9], none⟩,
 ⟨(some 4), none, .id, [.slot 10], none⟩])
 (.seq
 (.region [
 ⟨(some 11), none, .id, [.slot 4], none⟩,
 ⟨(some 12), none, .call f_value_Name, [.slot 11], none⟩,
 ⟨(some 13), none, .un .not, [.slot 12], none⟩])
 (.cond (.slot 13)
 (.seq
 (.region [
 ⟨(some 2), none, .id, [.val (.bool false)], none⟩])
 (.ret))
 (.skip)))))
 (.region [
 ⟨(some 14), none, .bin .add, [.slot 7, .val (.int .i64 1)], none⟩,
 ⟨(some 7), none, .id, [.slot 14], none⟩])))
def b_value_names : ICode :=
 .seq
 (.region [
 ⟨(some 2), none, .id, [.val (.bool false)], none⟩])
 (.seq
 (.seq
 (.region [
 ⟨(some 5), none, .id, [.slot 0], none⟩,
 ⟨(some 6), none, .lensl, [.slot 5], none⟩,
 ⟨(some 7), none, .id, [.val (.int .i64 0)], none⟩])
 (.block 0
 (.loop L0_value_names)))
 (.seq
 (.region [
 ⟨(some 2), none, .id, [.val (.bool true)], none⟩])
 (.ret)))
def F_value_names : IFun := ⟨15, [.slot 2], b_value_names, 6, 0, nofn⟩
theorem c_value_names : cFun Tryz.prog [] 0 f_value_names = some F_value_names := by kernel_rfl

def b_value_empty : ICode :=
 .seq
 (.region [
 ⟨(some 2), none, .id, [.val (.bool false)], none⟩])
 (.seq
 (.region [
 ⟨(some 3), none, .id, [.slot 0], none⟩,
 ⟨(some 4), none, .call f_strings_Join, [.slot 3, .val (.str ⟨#[]⟩)], none⟩,
 ⟨(some 5), none, .bin .eql, [.slot 4, .val (.str ⟨#[]⟩)], none⟩,
 ⟨(some 2), none, .id, [.slot 5], none⟩])
 (.ret))
def F_value_empty : IFun := ⟨6, [.slot 2], b_value_empty, 6, 0, nofn⟩
theorem c_value_empty : cFun Tryz.prog [2097273] 0 f_value_empty = some F_value_empty := by kernel_rfl

def L0_hedgerowref01_Name : ICode :=
 .seq
 (.seq
 (.region [
 ⟨(some 7), none, .id, [.slot 3], none⟩,
 ⟨(some 8), none, .id, [.slot 0], none⟩,
 ⟨(some 9), none, .lenstr, [.slot 8], none⟩,
 ⟨(some 10), none, .bin .lss, [.slot 7, .slot 9], none⟩])
 (.cond (.slot 10)
 (.skip)
 (.exit 0)))
 (.seq
 (.block 1
 (.seq
 (.region [
 ⟨(some 13), none, .id, [.slot 0], none⟩,
 ⟨(some 14), none, .id, [.slot 3], none⟩,
 ⟨(some 15), none, .ixstr, [.slot 13, .slot 14], none⟩,
 ⟨(some 4), none, .id, [.slot 15], none⟩])
 (.seq
 (.region [
 ⟨(some 16), none, .id, [.slot 4], none⟩,
 ⟨(some 17), none, .bin .geq, [.slot 16, .val (.int .u8 97)], none⟩,
 ⟨(some 18), none, .id, [.slot 17], none⟩,
 ⟨(some 19), (some (18, true)), .id, [.slot 4], none⟩,
 ⟨(some 20), (some (18, true)), .bin .leq, [.slot 19, .val (.int .u8 122)], none⟩,
 ⟨(some 21), none, .pick, [.slot 18, .slot 20, .val (.bool false)], none⟩,
 ⟨(some 22), none, .id, [.slot 21], none⟩,
 ⟨(some 23), (some (22, false)), .id, [.slot 4], none⟩,
 ⟨(some 24), (some (22, false)), .bin .geq, [.slot 23, .val (.int .u8 65)], none⟩,
 ⟨(some 25), (some (22, false)), .id, [.slot 24], none⟩,
 ⟨(some 26), (some (25, true)), .id, [.slot 4], none⟩,
 ⟨(some 27), (some (25, true)), .bin .leq, [.slot 26, .val (.int .u8 90)], none⟩,
 ⟨(some 28), (some (22, false)), .pick, [.slot 25, .slot 27, .val (.bool false)], none⟩,
 ⟨(some 29), none, .pick, [.slot 22, .val (.bool true), .slot 28], none⟩,
 ⟨(some 5), none, .id, [.slot 29], none⟩])
 (.seq
 (.region [
 ⟨(some 30), none, .id, [.slot 4], none⟩,
 ⟨(some 31), none, .bin .geq, [.slot 30, .val (.int .u8 48)], none⟩,
 ⟨(some 32), none, .id, [.slot 31], none⟩,
 ⟨(some 33), (some (32, true)), .id, [.slot 4], none⟩,
 ⟨(some 34), (some (32, true)), .bin .leq, [.slot 33, .val (.int .u8 57)], none⟩,
 ⟨(some 35), none, .pick, [.slot 32, .slot 34, .val (.bool false)], none⟩,
 ⟨(some 36), none, .id, [.slot 35], none⟩,
 ⟨(some 37), (some (36, false)), .id, [.slot 4], none⟩,
 ⟨(some 38), (some (36, false)), .bin .eql, [.slot 37, .val (.int .u8 95)], none⟩,
 ⟨(some 39), none, .pick, [.slot 36, .val (.bool true), .slot 38], none⟩,
 ⟨(some 6), none, .id, [.slot 39], none⟩])
 (.seq
 (.region [
 ⟨(some 40), none, .id, [.slot 5], none⟩,
 ⟨(some 41), none, .un .not, [.slot 40], none⟩,
 ⟨(some 42), none, .id, [.slot 41], none⟩,
 ⟨(some 43), (some (42, true)), .id, [.slot 6], none⟩,
 ⟨(some 44), (some (42, true)), .un .not, [.slot 43], none⟩,
 ⟨(some 45), (some (42, true)), .id, [.slot 44], none⟩,
 ⟨(some 46), (some (45, false)), .id, [.slot 3], none⟩,
 ⟨(some 47), (some (45, false)), .bin .eql, [.slot 46, .val (.int .i64 0)], none⟩,
 ⟨(some 48), (some (42, true)), .pick, [.slot 45, .val (.bool true), .slot 47], none⟩,
 ⟨(some 49), none, .pick, [.slot 42, .slot 48, .val (.bool false)], none⟩])
 (.cond (.slot 49)
 (.seq
 (.region [
 ⟨(some 2), none, .id, [.val (.bool false)], none⟩])
 (.ret))
 (.skip)))))))
 (.region [
 ⟨(some 11), none, .id, [.slot 3], none⟩,
 ⟨(some 12), none, .bin .add, [.slot 11, .val (.int .i64 1)], none⟩,
 ⟨(some 3), none, .id, [.slot 12], none⟩]))
def b_hedgerowref01_Name : ICode :=
 .seq
 (.region [
 ⟨(some 2), none, .id, [.val (.bool false)], none⟩])
 (.seq
 (.seq
 (.region [
 ⟨(some 3), none, .id, [.val (.int .i64 0)], none⟩])
 (.block 0
 (.loop L0_hedgerowref01_Name)))
 (.seq
 (.region [
 ⟨(some 50), none, .id, [.slot 0], none⟩,
 ⟨(some 51), none, .lenstr, [.slot 50], none⟩,
 ⟨(some 52), none, .bin .geq, [.slot 51, .val (.int .i64 1)], none⟩,
 ⟨(some 53), none, .id, [.slot 52], none⟩,
 ⟨(some 54), (some (53, true)), .id, [.slot 0], none⟩,
 ⟨(some 55), (some (53, true)), .lenstr, [.slot 54], none⟩,
 ⟨(some 56), (some (53, true)), .bin .leq, [.slot 55, .val (.int .i64 16)], none⟩,
 ⟨(some 57), none, .pick, [.slot 53, .slot 56, .val (.bool false)], none⟩,
 ⟨(some 2), none, .id, [.slot 57], none⟩])
 (.ret)))
def F_hedgerowref01_Name : IFun := ⟨58, [.slot 2], b_hedgerowref01_Name, 6, 0, nofn⟩
theorem c_hedgerowref01_Name : cFun Tryz.prog [] 0 f_hedgerowref01_Name = some F_hedgerowref01_Name := by kernel_rfl

def L0_hedgerowref01_plain : ICode :=
 .seq
 (.seq
 (.region [
 ⟨(some 4), none, .id, [.slot 3], none⟩,
 ⟨(some 5), none, .id, [.slot 0], none⟩,
 ⟨(some 6), none, .lenstr, [.slot 5], none⟩,
 ⟨(some 7), none, .bin .lss, [.slot 4, .slot 6], none⟩])
 (.cond (.slot 7)
 (.skip)
 (.exit 0)))
 (.seq
 (.block 1
 (.seq
 (.region [
 ⟨(some 10), none, .id, [.slot 0], none⟩,
 ⟨(some 11), none, .id, [.slot 3], none⟩,
 ⟨(some 12), none, .ixstr, [.slot 10, .slot 11], none⟩,
 ⟨(some 13), none, .bin .lss, [.slot 12, .val (.int .u8 32)], none⟩,
 ⟨(some 14), none, .id, [.slot 13], none⟩,
 ⟨(some 15), (some (14, false)), .id, [.slot 0], none⟩,
 ⟨(some 16), (some (14, false)), .id, [.slot 3], none⟩,
 ⟨(some 17), (some (14, false)), .ixstr, [.slot 15, .slot 16], none⟩,
 ⟨(some 18), (some (14, false)), .bin .gtr, [.slot 17, .val (.int .u8 126)], none⟩,
 ⟨(some 19), none, .pick, [.slot 14, .val (.bool true), .slot 18], none⟩])
 (.cond (.slot 19)
 (.seq
 (.region [
 ⟨(some 2), none, .id, [.val (.bool false)], none⟩])
 (.ret))
 (.skip))))
 (.region [
 ⟨(some 8), none, .id, [.slot 3], none⟩,
 ⟨(some 9), none, .bin .add, [.slot 8, .val (.int .i64 1)], none⟩,
 ⟨(some 3), none, .id, [.slot 9], none⟩]))
def b_hedgerowref01_plain : ICode :=
 .seq
 (.region [
 ⟨(some 2), none, .id, [.val (.bool false)], none⟩])
 (.seq
 (.seq
 (.region [
 ⟨(some 3), none, .id, [.val (.int .i64 0)], none⟩])
 (.block 0
 (.loop L0_hedgerowref01_plain)))
 (.seq
 (.region [
 ⟨(some 20), none, .id, [.slot 0], none⟩,
 ⟨(some 21), none, .lenstr, [.slot 20], none⟩,
 ⟨(some 22), none, .bin .leq, [.slot 21, .val (.int .i64 64)], none⟩,
 ⟨(some 2), none, .id, [.slot 22], none⟩])
 (.ret)))
def F_hedgerowref01_plain : IFun := ⟨23, [.slot 2], b_hedgerowref01_plain, 6, 0, nofn⟩
theorem c_hedgerowref01_plain : cFun Tryz.prog [] 0 f_hedgerowref01_plain = some F_hedgerowref01_plain := by kernel_rfl

def b_hedgerowref01_Link : ICode :=
 .seq
 (.region [
 ⟨(some 2), none, .allocL [(.str ⟨#[]⟩), (.str ⟨#[]⟩), (.str ⟨#[]⟩)], [], none⟩,
 ⟨(some 3), none, .id, [.val (.bool false)], none⟩])
 (.seq
 (.seq
 (.region [
 ⟨(some 5), none, .id, [.slot 0], none⟩,
 ⟨(some 6), none, .lenstr, [.slot 5], none⟩,
 ⟨(some 7), none, .bin .gtr, [.slot 6, .val (.int .i64 60)], none⟩])
 (.cond (.slot 7)
 (.seq
 (.region [
 ⟨(some 8), none, .build [(.str ⟨#[]⟩), (.str ⟨#[]⟩), (.str ⟨#[]⟩)] [], [], none⟩,
 ⟨none, none, .store 3, [.slot 2, .slot 8], none⟩,
 ⟨(some 3), none, .id, [.val (.bool false)], none⟩])
 (.ret))
 (.skip)))
 (.seq
 (.region [
 ⟨(some 9), none, .id, [.slot 0], none⟩,
 ⟨(some 10), none, .call f_hedgerowref01_Split, [.slot 9, .val (.int .u8 62)], none⟩,
 ⟨(some 4), none, .id, [.slot 10], none⟩])
 (.seq
 (.seq
 (.region [
 ⟨(some 11), none, .id, [.slot 4], none⟩,
 ⟨(some 12), none, .lensl, [.slot 11], none⟩,
 ⟨(some 13), none, .bin .neq, [.slot 12, .val (.int .i64 3)], none⟩,
 ⟨(some 14), none, .id, [.slot 13], none⟩,
 ⟨(some 15), (some (14, false)), .id, [.slot 4], none⟩,
 ⟨(some 16), (some (14, false)), .ixaddr 1, [.slot 15, .val (.int .i64 0)], none⟩,
 ⟨(some 17), (some (14, false)), .load 1 false, [.slot 16], none⟩,
 ⟨(some 18), (some (14, false)), .call f_hedgerowref01_Name, [.slot 17], none⟩,
 ⟨(some 19), (some (14, false)), .un .not, [.slot 18], none⟩,
 ⟨(some 20), none, .pick, [.slot 14, .val (.bool true), .slot 19], none⟩,
 ⟨(some 21), none, .id, [.slot 20], none⟩,
 ⟨(some 22), (some (21, false)), .id, [.slot 4], none⟩,
 ⟨(some 23), (some (21, false)), .ixaddr 1, [.slot 22, .val (.int .i64 1)], none⟩,
 ⟨(some 24), (some (21, false)), .load 1 false, [.slot 23], none⟩,
 ⟨(some 25), (some (21, false)), .call f_hedgerowref01_Name, [.slot 24], none⟩,
 ⟨(some 26), (some (21, false)), .un .not, [.slot 25], none⟩,
 ⟨(some 27), none, .pick, [.slot 21, .val (.bool true), .slot 26], none⟩,
 ⟨(some 28), none, .id, [.slot 27], none⟩,
 ⟨(some 29), (some (28, false)), .id, [.slot 4], none⟩,
 ⟨(some 30), (some (28, false)), .ixaddr 1, [.slot 29, .val (.int .i64 2)], none⟩,
 ⟨(some 31), (some (28, false)), .load 1 false, [.slot 30], none⟩,
 ⟨(some 32), (some (28, false)), .call f_hedgerowref01_Name, [.slot 31], none⟩,
 ⟨(some 33), (some (28, false)), .un .not, [.slot 32], none⟩,
 ⟨(some 34), none, .pick, [.slot 28, .val (.bool true), .slot 33], none⟩])
 (.cond (.slot 34)
 (.seq
 (.region [
 ⟨(some 35), none, .build [(.str ⟨#[]⟩), (.str ⟨#[]⟩), (.str ⟨#[]⟩)] [], [], none⟩,
 ⟨none, none, .store 3, [.slot 2, .slot 35], none⟩,
 ⟨(some 3), none, .id, [.val (.bool false)], none⟩])
 (.ret))
 (.skip)))
 (.seq
 (.region [
 ⟨(some 36), none, .id, [.slot 4], none⟩,
 ⟨(some 37), none, .ixaddr 1, [.slot 36, .val (.int .i64 0)], none⟩,
 ⟨(some 38), none, .load 1 false, [.slot 37], (some (.heap))⟩,
 ⟨(some 39), none, .id, [.slot 4], none⟩,
 ⟨(some 40), none, .ixaddr 1, [.slot 39, .val (.int .i64 1)], none⟩,
 ⟨(some 41), none, .load 1 false, [.slot 40], (some (.heap))⟩,
 ⟨(some 42), none, .id, [.slot 4], none⟩,
 ⟨(some 43), none, .ixaddr 1, [.slot 42, .val (.int .i64 2)], none⟩,
 ⟨(some 44), none, .load 1 false, [.slot 43], (some (.heap))⟩,
 ⟨(some 45), none, .build [(.str ⟨#[]⟩), (.str ⟨#[]⟩), (.str ⟨#[]⟩)] [(0, 1), (2, 1), (1, 1)], [.slot 38, .slot 41, .slot 44], none⟩,
 ⟨none, none, .store 3, [.slot 2, .slot 45], (some (.loc 2))⟩,
 ⟨(some 3), none, .id, [.val (.bool true)], none⟩])
 (.ret)))))
def F_hedgerowref01_Link : IFun := ⟨46, [.cell 2 3 true, .slot 3], b_hedgerowref01_Link, 6, 1, nofn⟩
theorem c_hedgerowref01_Link : cFun Tryz.prog [1048578, 3145765, 3145768, 3145771] 1 f_hedgerowref01_Link = some F_hedgerowref01_Link := by kernel_rfl

def b_cmp_isNaNint : ICode :=
 .seq
 (.region [
 ⟨(some 2), none, .id, [.val (.bool false)], none⟩])
 (.seq
 (.region [
 ⟨(some 3), none, .id, [.slot 0], none⟩,
 ⟨(some 4), none, .id, [.slot 0], none⟩,
 ⟨(some 5), none, .bin .neq, [.slot 3, .slot 4], none⟩,
 ⟨(some 2), none, .id, [.slot 5], none⟩])
 (.ret))
def F_cmp_isNaNint : IFun := ⟨6, [.slot 2], b_cmp_isNaNint, 6, 0, nofn⟩
theorem c_cmp_isNaNint : cFun Tryz.prog [] 0 f_cmp_isNaNint = some F_cmp_isNaNint := by kernel_rfl

def b_cmp_isNaNstring : ICode :=
 .seq
 (.region [
 ⟨(some 2), none, .id, [.val (.bool false)], none⟩])
 (.seq
 (.region [
 ⟨(some 3), none, .id, [.slot 0], none⟩,
 ⟨(some 4), none, .id, [.slot 0], none⟩,
 ⟨(some 5), none, .bin .neq, [.slot 3, .slot 4], none⟩,
 ⟨(some 2), none, .id, [.slot 5], none⟩])
 (.ret))
def F_cmp_isNaNstring : IFun := ⟨6, [.slot 2], b_cmp_isNaNstring, 6, 0, nofn⟩
theorem c_cmp_isNaNstring : cFun Tryz.prog [] 0 f_cmp_isNaNstring = some F_cmp_isNaNstring := by kernel_rfl

def b_event_may : ICode :=
 .seq
 (.region [
 ⟨(some 1), none, .boxL, [.slot 0], none⟩,
 ⟨(some 2), none, .id, [.val (.bool false)], none⟩])
 (.seq
 (.seq
 (.region [
 ⟨(some 4), none, .faddr 1, [.slot 1], none⟩,
 ⟨(some 5), none, .load 5 true, [.slot 4], none⟩,
 ⟨(some 6), none, .call f_value_Elem, [.slot 5], none⟩,
 ⟨(some 7), none, .un .not, [.slot 6], none⟩])
 (.cond (.slot 7)
 (.seq
 (.region [
 ⟨(some 2), none, .id, [.val (.bool false)], none⟩])
 (.ret))
 (.skip)))
 (.seq
 (.region [
 ⟨(some 8), none, .faddr 6, [.slot 1], none⟩,
 ⟨(some 9), none, .load 3 true, [.slot 8], none⟩,
 ⟨(some 10), none, .build [(.int .i64 0), (.int .i64 0), (.str ⟨#[]⟩)] [], [], none⟩,
 ⟨(some 11), none, .eqv false [(.int .i64), (.int .i64), .str], [.slot 9, .slot 10], none⟩,
 ⟨(some 3), none, .id, [.slot 11], none⟩])
 (.seq
 (.seq
 (.region [
 ⟨(some 12), none, .faddr 0, [.slot 1], none⟩,
 ⟨(some 13), none, .load 1 false, [.slot 12], none⟩])
 (.block 0
 (.seq
 (.seq
 (.region [
 ⟨(some 15), none, .bin .eql, [.slot 13, .val (.int .i64 1)], none⟩,
 ⟨(some 14), none, .id, [.slot 15], none⟩])
 (.cond (.slot 14)
 (.skip)
 (.region [
 ⟨(some 16), none, .bin .eql, [.slot 13, .val (.int .i64 2)], none⟩,
 ⟨(some 14), none, .id, [.slot 16], none⟩])))
 (.cond (.slot 14)
 (.seq
 (.region [
 ⟨(some 17), none, .id, [.slot 3], none⟩,
 ⟨(some 18), none, .id, [.slot 17], none⟩,
 ⟨(some 19), (some (18, true)), .faddr 1, [.slot 1], none⟩,
 ⟨(some 20), (some (18, true)), .load 5 true, [.slot 19], none⟩,
 ⟨(some 21), (some (18, true)), .call f_event_kept, [.slot 20], none⟩,
 ⟨(some 22), (some (18, true)), .un .not, [.slot 21], none⟩,
 ⟨(some 23), none, .pick, [.slot 18, .slot 22, .val (.bool false)], none⟩,
 ⟨(some 2), none, .id, [.slot 23], none⟩])
 (.ret))
 (.seq
 (.region [
 ⟨(some 25), none, .bin .eql, [.slot 13, .val (.int .i64 3)], none⟩,
 ⟨(some 24), none, .id, [.slot 25], none⟩])
 (.cond (.slot 24)
 (.seq
 (.region [
 ⟨(some 26), none, .faddr 1, [.slot 1], none⟩,
 ⟨(some 27), none, .load 5 true, [.slot 26], none⟩,
 ⟨(some 28), none, .call f_event_kept, [.slot 27], none⟩,
 ⟨(some 29), none, .id, [.slot 28], none⟩,
 ⟨(some 30), (some (29, true)), .faddr 6, [.slot 1], none⟩,
 ⟨(some 31), (some (29, true)), .load 3 true, [.slot 30], none⟩,
 ⟨(some 32), (some (29, true)), .call f_event_scalar, [.slot 31], none⟩,
 ⟨(some 33), none, .pick, [.slot 29, .slot 32, .val (.bool false)], none⟩,
 ⟨(some 2), none, .id, [.slot 33], none⟩])
 (.ret))
 (.seq
 (.region [
 ⟨(some 35), none, .bin .eql, [.slot 13, .val (.int .i64 4)], none⟩,
 ⟨(some 34), none, .id, [.slot 35], none⟩])
 (.cond (.slot 34)
 (.seq
 (.region [
 ⟨(some 36), none, .id, [.slot 3], none⟩,
 ⟨(some 37), none, .id, [.slot 36], none⟩,
 ⟨(some 38), (some (37, true)), .faddr 1, [.slot 1], none⟩,
 ⟨(some 39), (some (37, true)), .load 5 true, [.slot 38], none⟩,
 ⟨(some 40), (some (37, true)), .call f_event_kept, [.slot 39], none⟩,
 ⟨(some 41), none, .pick, [.slot 37, .slot 40, .val (.bool false)], none⟩,
 ⟨(some 2), none, .id, [.slot 41], none⟩])
 (.ret))
 (.skip)))))))))
 (.seq
 (.region [
 ⟨(some 2), none, .id, [.val (.bool false)], none⟩])
 (.ret)))))
def F_event_may : IFun := ⟨42, [.slot 2], b_event_may, 6, 0, nofn⟩
theorem c_event_may : cFun Tryz.prog [1048577] 0 f_event_may = some F_event_may := by kernel_rfl

def b_num_Reader_Signed : ICode :=
 .seq
 (.region [
 ⟨(some 2), none, .id, [.val (.int .i64 0)], none⟩])
 (.seq
 (.region [
 ⟨(some 4), none, .id, [.slot 0], none⟩,
 ⟨(some 5), none, .call f_num_Reader_Num, [.slot 4, .val (.int .i64 2305843009213693952)], none⟩,
 ⟨(some 3), none, .id, [.slot 5], none⟩])
 (.seq
 (.seq
 (.region [
 ⟨(some 6), none, .id, [.slot 3], none⟩,
 ⟨(some 7), none, .bin .and, [.slot 6, .val (.int .i64 1)], none⟩,
 ⟨(some 8), none, .bin .eql, [.slot 7, .val (.int .i64 1)], none⟩])
 (.cond (.slot 8)
 (.seq
 (.region [
 ⟨(some 9), none, .id, [.slot 3], none⟩,
 ⟨(some 10), none, .bin .quo, [.slot 9, .val (.int .i64 2)], none⟩,
 ⟨(some 11), none, .un .neg, [.slot 10], none⟩,
 ⟨(some 12), none, .bin .sub, [.slot 11, .val (.int .i64 1)], none⟩,
 ⟨(some 2), none, .id, [.slot 12], none⟩])
 (.ret))
 (.skip)))
 (.seq
 (.region [
 ⟨(some 13), none, .id, [.slot 3], none⟩,
 ⟨(some 14), none, .bin .quo, [.slot 13, .val (.int .i64 2)], none⟩,
 ⟨(some 2), none, .id, [.slot 14], none⟩])
 (.ret))))
def F_num_Reader_Signed : IFun := ⟨15, [.slot 2], b_num_Reader_Signed, 6, 0, nofn⟩
theorem c_num_Reader_Signed : cFun Tryz.prog [] 0 f_num_Reader_Signed = some F_num_Reader_Signed := by kernel_rfl

def L0_value_Name : ICode :=
 .seq
 (.region [
 ⟨(some 20), none, .bin .lss, [.slot 19, .slot 18], none⟩])
 (.seq
 (.cond (.slot 20)
 (.skip)
 (.exit 0))
 (.seq
 (.block 1
 (.seq
 (.region [
 ⟨(some 21), none, .id, [.slot 19], none⟩,
 ⟨(some 3), none, .id, [.slot 21], none⟩])
 (.seq
 (.region [
 ⟨(some 22), none, .id, [.slot 0], none⟩,
 ⟨(some 23), none, .id, [.slot 3], none⟩,
 ⟨(some 24), none, .ixstr, [.slot 22, .slot 23], none⟩,
 ⟨(some 25), none, .call f_value_inner, [.slot 24], none⟩,
 ⟨(some 26), none, .un .not, [.slot 25], none⟩])
 (.cond (.slot 26)
 (.seq
 (.region [
 ⟨(some 2), none, .id, [.val (.bool false)], none⟩])
 (.ret))
 (.skip)))))
 (.region [
 ⟨(some 27), none, .bin .add, [.slot 19, .val (.int .i64 1)], none⟩,
 ⟨(some 19), none, .id, [.slot 27], none⟩])))
def b_value_Name : ICode :=
 .seq
 (.region [
 ⟨(some 2), none, .id, [.val (.bool false)], none⟩])
 (.seq
 (.seq
 (.region [
 ⟨(some 4), none, .id, [.slot 0], none⟩,
 ⟨(some 5), none, .bin .eql, [.slot 4, .val (.str ⟨#[]⟩)], none⟩,
 ⟨(some 6), none, .id, [.slot 5], none⟩,
 ⟨(some 7), (some (6, false)), .id, [.slot 0], none⟩,
 ⟨(some 8), (some (6, false)), .lenstr, [.slot 7], none⟩,
 ⟨(some 9), (some (6, false)), .bin .gtr, [.slot 8, .val (.int .i64 16)], none⟩,
 ⟨(some 10), none, .pick, [.slot 6, .val (.bool true), .slot 9], none⟩,
 ⟨(some 11), none, .id, [.slot 10], none⟩,
 ⟨(some 12), (some (11, false)), .id, [.slot 0], none⟩,
 ⟨(some 13), (some (11, false)), .ixstr, [.slot 12, .val (.int .i64 0)], none⟩,
 ⟨(some 14), (some (11, false)), .call f_value_letter, [.slot 13], none⟩,
 ⟨(some 15), (some (11, false)), .un .not, [.slot 14], none⟩,
 ⟨(some 16), none, .pick, [.slot 11, .val (.bool true), .slot 15], none⟩])
 (.cond (.slot 16)
 (.seq
 (.region [
 ⟨(some 2), none, .id, [.val (.bool false)], none⟩])
 (.ret))
 (.skip)))
 (.seq
 (.seq
 (.region [
 ⟨(some 17), none, .id, [.slot 0], none⟩,
 ⟨(some 18), none, .lenstr, [.slot 17], none⟩,
 ⟨(some 19), none, .id, [.val (.int .i64 0)], none⟩])
 (.block 0
 (.loop L0_value_Name)))
 (.seq
 (.region [
 ⟨(some 2), none, .id, [.val (.bool true)], none⟩])
 (.ret))))
def F_value_Name : IFun := ⟨28, [.slot 2], b_value_Name, 6, 0, nofn⟩
theorem c_value_Name : cFun Tryz.prog [] 0 f_value_Name = some F_value_Name := by kernel_rfl

def b_value_Right : ICode :=
 .seq
 (.region [
 ⟨(some 1), none, .boxL, [.slot 0], none⟩,
 ⟨(some 2), none, .id, [.val (.bool false)], none⟩])
 (.seq
 (.seq
 (.region [
 ⟨(some 5), none, .faddr 0, [.slot 1], none⟩,
 ⟨(some 6), none, .load 1 false, [.slot 5], none⟩])
 (.block 0
 (.seq
 (.region [
 ⟨(some 8), none, .bin .eql, [.slot 6, .val (.int .i64 0)], none⟩,
 ⟨(some 7), none, .id, [.slot 8], none⟩])
 (.cond (.slot 7)
 (.seq
 (.region [
 ⟨(some 9), none, .faddr 1, [.slot 1], none⟩,
 ⟨(some 10), none, .load 1 false, [.slot 9], none⟩,
 ⟨(some 11), none, .bin .eql, [.slot 10, .val (.int .i64 0)], none⟩,
 ⟨(some 12), none, .id, [.slot 11], none⟩,
 ⟨(some 13), (some (12, true)), .faddr 2, [.slot 1], none⟩,
 ⟨(some 14), (some (12, true)), .load 1 false, [.slot 13], none⟩,
 ⟨(some 15), (some (12, true)), .bin .eql, [.slot 14, .val (.str ⟨#[]⟩)], none⟩,
 ⟨(some 16), none, .pick, [.slot 12, .slot 15, .val (.bool false)], none⟩,
 ⟨(some 2), none, .id, [.slot 16], none⟩])
 (.ret))
 (.seq
 (.region [
 ⟨(some 18), none, .bin .eql, [.slot 6, .val (.int .i64 1)], none⟩,
 ⟨(some 17), none, .id, [.slot 18], none⟩])
 (.cond (.slot 17)
 (.seq
 (.region [
 ⟨(some 19), none, .faddr 1, [.slot 1], none⟩,
 ⟨(some 20), none, .load 1 false, [.slot 19], none⟩,
 ⟨(some 21), none, .bin .andNot, [.slot 20, .val (.int .i64 1)], none⟩,
 ⟨(some 22), none, .bin .eql, [.slot 21, .val (.int .i64 0)], none⟩,
 ⟨(some 23), none, .id, [.slot 22], none⟩,
 ⟨(some 24), (some (23, true)), .faddr 2, [.slot 1], none⟩,
 ⟨(some 25), (some (23, true)), .load 1 false, [.slot 24], none⟩,
 ⟨(some 26), (some (23, true)), .bin .eql, [.slot 25, .val (.str ⟨#[]⟩)], none⟩,
 ⟨(some 27), none, .pick, [.slot 23, .slot 26, .val (.bool false)], none⟩,
 ⟨(some 2), none, .id, [.slot 27], none⟩])
 (.ret))
 (.seq
 (.region [
 ⟨(some 29), none, .bin .eql, [.slot 6, .val (.int .i64 2)], none⟩,
 ⟨(some 28), none, .id, [.slot 29], none⟩])
 (.cond (.slot 28)
 (.seq
 (.region [
 ⟨(some 30), none, .faddr 1, [.slot 1], none⟩,
 ⟨(some 31), none, .load 1 false, [.slot 30], none⟩,
 ⟨(some 32), none, .bin .geq, [.slot 31, .val (.int .i64 (-1099511627776))], none⟩,
 ⟨(some 33), none, .id, [.slot 32], none⟩,
 ⟨(some 34), (some (33, true)), .faddr 1, [.slot 1], none⟩,
 ⟨(some 35), (some (33, true)), .load 1 false, [.slot 34], none⟩,
 ⟨(some 36), (some (33, true)), .bin .leq, [.slot 35, .val (.int .i64 1099511627776)], none⟩,
 ⟨(some 37), none, .pick, [.slot 33, .slot 36, .val (.bool false)], none⟩,
 ⟨(some 38), none, .id, [.slot 37], none⟩,
 ⟨(some 39), (some (38, true)), .faddr 2, [.slot 1], none⟩,
 ⟨(some 40), (some (38, true)), .load 1 false, [.slot 39], none⟩,
 ⟨(some 41), (some (38, true)), .bin .eql, [.slot 40, .val (.str ⟨#[]⟩)], none⟩,
 ⟨(some 42), none, .pick, [.slot 38, .slot 41, .val (.bool false)], none⟩,
 ⟨(some 2), none, .id, [.slot 42], none⟩])
 (.ret))
 (.seq
 (.region [
 ⟨(some 44), none, .bin .eql, [.slot 6, .val (.int .i64 3)], none⟩,
 ⟨(some 43), none, .id, [.slot 44], none⟩])
 (.cond (.slot 43)
 (.seq
 (.region [
 ⟨(some 45), none, .faddr 1, [.slot 1], none⟩,
 ⟨(some 46), none, .load 1 false, [.slot 45], none⟩,
 ⟨(some 47), none, .bin .eql, [.slot 46, .val (.int .i64 0)], none⟩,
 ⟨(some 48), none, .id, [.slot 47], none⟩,
 ⟨(some 49), (some (48, true)), .faddr 2, [.slot 1], none⟩,
 ⟨(some 50), (some (48, true)), .load 1 false, [.slot 49], none⟩,
 ⟨(some 51), (some (48, true)), .call f_value_plain, [.slot 50], none⟩,
 ⟨(some 52), none, .pick, [.slot 48, .slot 51, .val (.bool false)], none⟩,
 ⟨(some 2), none, .id, [.slot 52], none⟩])
 (.ret))
 (.seq
 (.region [
 ⟨(some 54), none, .bin .eql, [.slot 6, .val (.int .i64 4)], none⟩,
 ⟨(some 53), none, .id, [.slot 54], none⟩])
 (.cond (.slot 53)
 (.seq
 (.region [
 ⟨(some 55), none, .faddr 1, [.slot 1], none⟩,
 ⟨(some 56), none, .load 1 false, [.slot 55], none⟩,
 ⟨(some 57), none, .bin .eql, [.slot 56, .val (.int .i64 0)], none⟩,
 ⟨(some 58), none, .id, [.slot 57], none⟩,
 ⟨(some 59), (some (58, true)), .faddr 2, [.slot 1], none⟩,
 ⟨(some 60), (some (58, true)), .load 1 false, [.slot 59], none⟩,
 ⟨(some 61), (some (58, true)), .call f_value_Name, [.slot 60], none⟩,
 ⟨(some 62), none, .pick, [.slot 58, .slot 61, .val (.bool false)], none⟩,
 ⟨(some 2), none, .id, [.slot 62], none⟩])
 (.ret))
 (.skip)))))))))))))
 (.seq
 (.region [
 ⟨(some 64), none, .load 3 true, [.slot 1], none⟩,
 ⟨(some 65), none, .call f_value_Link, [.slot 64], none⟩,
 ⟨(some 63), none, .id, [.slot 65], none⟩,
 ⟨(some 66), none, .extract 0, [.slot 63], none⟩,
 ⟨(some 67), none, .extract 1, [.slot 63], none⟩,
 ⟨(some 3), none, .allocL [(.str ⟨#[]⟩), (.str ⟨#[]⟩), (.str ⟨#[]⟩)], [], none⟩,
 ⟨none, none, .store 3, [.slot 3, .slot 66], none⟩,
 ⟨(some 4), none, .id, [.slot 67], none⟩])
 (.seq
 (.region [
 ⟨(some 68), none, .id, [.slot 4], none⟩,
 ⟨(some 2), none, .id, [.slot 68], none⟩])
 (.ret))))
def F_value_Right : IFun := ⟨69, [.slot 2], b_value_Right, 6, 0, nofn⟩
theorem c_value_Right : cFun Tryz.prog [1048577, 1048579] 0 f_value_Right = some F_value_Right := by kernel_rfl

def L0_hedgerowref01_Split : ICode :=
 .seq
 (.seq
 (.region [
 ⟨(some 8), none, .id, [.slot 6], none⟩,
 ⟨(some 9), none, .id, [.slot 0], none⟩,
 ⟨(some 10), none, .lenstr, [.slot 9], none⟩,
 ⟨(some 11), none, .bin .lss, [.slot 8, .slot 10], none⟩])
 (.cond (.slot 11)
 (.skip)
 (.exit 0)))
 (.seq
 (.block 1
 (.seq
 (.region [
 ⟨(some 14), none, .id, [.slot 0], none⟩,
 ⟨(some 15), none, .id, [.slot 6], none⟩,
 ⟨(some 16), none, .ixstr, [.slot 14, .slot 15], none⟩,
 ⟨(some 17), none, .id, [.slot 1], none⟩,
 ⟨(some 18), none, .bin .eql, [.slot 16, .slot 17], none⟩])
 (.cond (.slot 18)
 (.region [
 ⟨(some 19), none, .id, [.slot 5], none⟩,
 ⟨(some 20), none, .buildSl 1 1 (.str ⟨#[]⟩) [0], [.val (.str ⟨#[]⟩)], none⟩,
 ⟨(some 21), none, .append 9 1 16, [.slot 19, .slot 20], none⟩,
 ⟨(some 5), none, .id, [.slot 21], none⟩])
 (.region [
 ⟨(some 22), none, .id, [.slot 5], none⟩,
 ⟨(some 23), none, .id, [.slot 5], none⟩,
 ⟨(some 24), none, .lensl, [.slot 23], none⟩,
 ⟨(some 25), none, .bin .sub, [.slot 24, .val (.int .i64 1)], none⟩,
 ⟨(some 26), none, .id, [.slot 5], none⟩,
 ⟨(some 27), none, .id, [.slot 5], none⟩,
 ⟨(some 28), none, .lensl, [.slot 27], none⟩,
 ⟨(some 29), none, .bin .sub, [.slot 28, .val (.int .i64 1)], none⟩,
 ⟨(some 30), none, .ixaddr 1, [.slot 26, .slot 29], none⟩,
 ⟨(some 31), none, .load 1 false, [.slot 30], (some (.heap))⟩,
 ⟨(some 32), none, .id, [.slot 0], none⟩,
 ⟨(some 33), none, .id, [.slot 6], none⟩,
 ⟨(some 34), none, .id, [.slot 6], none⟩,
 ⟨(some 35), none, .bin .add, [.slot 34, .val (.int .i64 1)], none⟩,
 ⟨(some 36), none, .slstr true true, [.slot 32, .slot 33, .slot 35], none⟩,
 ⟨(some 37), none, .bin .add, [.slot 31, .slot 36], none⟩,
 ⟨(some 38), none, .ixaddr 1, [.slot 22, .slot 25], none⟩,
 ⟨none, none, .store 1, [.slot 38, .slot 37], (some (.heap))⟩]))))
 (.region [
 ⟨(some 12), none, .id, [.slot 6], none⟩,
 ⟨(some 13), none, .bin .add, [.slot 12, .val (.int .i64 1)], none⟩,
 ⟨(some 6), none, .id, [.slot 13], none⟩]))
def b_hedgerowref01_Split : ICode :=
 .seq
 (.region [
 ⟨(some 4), none, .id, [.val .nilsl], none⟩])
 (.seq
 (.region [
 ⟨(some 7), none, .buildR 9 1 1 (.str ⟨#[]⟩) [0], [.val (.str ⟨#[]⟩)], none⟩,
 ⟨(some 5), none, .id, [.slot 7], none⟩])
 (.seq
 (.seq
 (.region [
 ⟨(some 6), none, .id, [.val (.int .i64 0)], none⟩])
 (.block 0
 (.loop L0_hedgerowref01_Split)))
 (.seq
 (.region [
 ⟨(some 39), none, .id, [.slot 5], none⟩,
 ⟨(some 4), none, .id, [.slot 39], none⟩])
 (.ret))))
def F_hedgerowref01_Split : IFun := ⟨40, [.slot 4], b_hedgerowref01_Split, 6, 0, nofn⟩
theorem c_hedgerowref01_Split : cFun Tryz.prog [7, 3145758, 3145766] 0 f_hedgerowref01_Split = some F_hedgerowref01_Split := by kernel_rfl

def b_event_kept : ICode :=
 .seq
 (.region [
 ⟨(some 1), none, .boxL, [.slot 0], none⟩,
 ⟨(some 2), none, .id, [.val (.bool false)], none⟩])
 (.seq
 (.region [
 ⟨(some 3), none, .faddr 0, [.slot 1], none⟩,
 ⟨(some 4), none, .load 1 false, [.slot 3], none⟩,
 ⟨(some 5), none, .bin .eql, [.slot 4, .val (.int .i64 4)], none⟩,
 ⟨(some 6), none, .id, [.slot 5], none⟩,
 ⟨(some 7), (some (6, false)), .faddr 0, [.slot 1], none⟩,
 ⟨(some 8), (some (6, false)), .load 1 false, [.slot 7], none⟩,
 ⟨(some 9), (some (6, false)), .bin .eql, [.slot 8, .val (.int .i64 5)], none⟩,
 ⟨(some 10), none, .pick, [.slot 6, .val (.bool true), .slot 9], none⟩,
 ⟨(some 2), none, .id, [.slot 10], none⟩])
 (.ret))
def F_event_kept : IFun := ⟨11, [.slot 2], b_event_kept, 6, 0, nofn⟩
theorem c_event_kept : cFun Tryz.prog [1048577] 0 f_event_kept = some F_event_kept := by kernel_rfl

def b_event_scalar : ICode :=
 .seq
 (.region [
 ⟨(some 1), none, .boxL, [.slot 0], none⟩,
 ⟨(some 2), none, .id, [.val (.bool false)], none⟩])
 (.seq
 (.region [
 ⟨(some 3), none, .faddr 0, [.slot 1], none⟩,
 ⟨(some 4), none, .load 1 false, [.slot 3], none⟩,
 ⟨(some 5), none, .bin .geq, [.slot 4, .val (.int .i64 1)], none⟩,
 ⟨(some 6), none, .id, [.slot 5], none⟩,
 ⟨(some 7), (some (6, true)), .faddr 0, [.slot 1], none⟩,
 ⟨(some 8), (some (6, true)), .load 1 false, [.slot 7], none⟩,
 ⟨(some 9), (some (6, true)), .bin .leq, [.slot 8, .val (.int .i64 3)], none⟩,
 ⟨(some 10), none, .pick, [.slot 6, .slot 9, .val (.bool false)], none⟩,
 ⟨(some 11), none, .id, [.slot 10], none⟩,
 ⟨(some 12), (some (11, true)), .load 3 true, [.slot 1], none⟩,
 ⟨(some 13), (some (11, true)), .call f_value_Right, [.slot 12], none⟩,
 ⟨(some 14), none, .pick, [.slot 11, .slot 13, .val (.bool false)], none⟩,
 ⟨(some 2), none, .id, [.slot 14], none⟩])
 (.ret))
def F_event_scalar : IFun := ⟨15, [.slot 2], b_event_scalar, 6, 0, nofn⟩
theorem c_event_scalar : cFun Tryz.prog [1048577] 0 f_event_scalar = some F_event_scalar := by kernel_rfl

def b_value_letter : ICode :=
 .seq
 (.region [
 ⟨(some 2), none, .id, [.val (.bool false)], none⟩])
 (.seq
 (.region [
 ⟨(some 3), none, .id, [.slot 0], none⟩,
 ⟨(some 4), none, .bin .geq, [.slot 3, .val (.int .u8 97)], none⟩,
 ⟨(some 5), none, .id, [.slot 4], none⟩,
 ⟨(some 6), (some (5, true)), .id, [.slot 0], none⟩,
 ⟨(some 7), (some (5, true)), .bin .leq, [.slot 6, .val (.int .u8 122)], none⟩,
 ⟨(some 8), none, .pick, [.slot 5, .slot 7, .val (.bool false)], none⟩,
 ⟨(some 9), none, .id, [.slot 8], none⟩,
 ⟨(some 10), (some (9, false)), .id, [.slot 0], none⟩,
 ⟨(some 11), (some (9, false)), .bin .geq, [.slot 10, .val (.int .u8 65)], none⟩,
 ⟨(some 12), (some (9, false)), .id, [.slot 11], none⟩,
 ⟨(some 13), (some (12, true)), .id, [.slot 0], none⟩,
 ⟨(some 14), (some (12, true)), .bin .leq, [.slot 13, .val (.int .u8 90)], none⟩,
 ⟨(some 15), (some (9, false)), .pick, [.slot 12, .slot 14, .val (.bool false)], none⟩,
 ⟨(some 16), none, .pick, [.slot 9, .val (.bool true), .slot 15], none⟩,
 ⟨(some 2), none, .id, [.slot 16], none⟩])
 (.ret))
def F_value_letter : IFun := ⟨17, [.slot 2], b_value_letter, 6, 0, nofn⟩
theorem c_value_letter : cFun Tryz.prog [] 0 f_value_letter = some F_value_letter := by kernel_rfl

def b_value_inner : ICode :=
 .seq
 (.region [
 ⟨(some 2), none, .id, [.val (.bool false)], none⟩])
 (.seq
 (.region [
 ⟨(some 3), none, .id, [.slot 0], none⟩,
 ⟨(some 4), none, .call f_value_letter, [.slot 3], none⟩,
 ⟨(some 5), none, .id, [.slot 4], none⟩,
 ⟨(some 6), (some (5, false)), .id, [.slot 0], none⟩,
 ⟨(some 7), (some (5, false)), .bin .geq, [.slot 6, .val (.int .u8 48)], none⟩,
 ⟨(some 8), (some (5, false)), .id, [.slot 7], none⟩,
 ⟨(some 9), (some (8, true)), .id, [.slot 0], none⟩,
 ⟨(some 10), (some (8, true)), .bin .leq, [.slot 9, .val (.int .u8 57)], none⟩,
 ⟨(some 11), (some (5, false)), .pick, [.slot 8, .slot 10, .val (.bool false)], none⟩,
 ⟨(some 12), none, .pick, [.slot 5, .val (.bool true), .slot 11], none⟩,
 ⟨(some 13), none, .id, [.slot 12], none⟩,
 ⟨(some 14), (some (13, false)), .id, [.slot 0], none⟩,
 ⟨(some 15), (some (13, false)), .bin .eql, [.slot 14, .val (.int .u8 95)], none⟩,
 ⟨(some 16), none, .pick, [.slot 13, .val (.bool true), .slot 15], none⟩,
 ⟨(some 2), none, .id, [.slot 16], none⟩])
 (.ret))
def F_value_inner : IFun := ⟨17, [.slot 2], b_value_inner, 6, 0, nofn⟩
theorem c_value_inner : cFun Tryz.prog [] 0 f_value_inner = some F_value_inner := by kernel_rfl

def L0_value_plain : ICode :=
 .seq
 (.region [
 ⟨(some 7), none, .next, [.slot 6], none⟩,
 ⟨(some 8), none, .extract 0, [.slot 7], none⟩])
 (.seq
 (.cond (.slot 8)
 (.skip)
 (.exit 0))
 (.block 1
 (.seq
 (.region [
 ⟨(some 9), none, .extract 2, [.slot 7], none⟩,
 ⟨(some 4), none, .id, [.slot 9], none⟩])
 (.seq
 (.region [
 ⟨(some 10), none, .id, [.slot 4], none⟩,
 ⟨(some 11), none, .bin .lss, [.slot 10, .val (.int .i32 32)], none⟩,
 ⟨(some 12), none, .id, [.slot 11], none⟩,
 ⟨(some 13), (some (12, false)), .id, [.slot 4], none⟩,
 ⟨(some 14), (some (12, false)), .bin .gtr, [.slot 13, .val (.int .i32 126)], none⟩,
 ⟨(some 15), none, .pick, [.slot 12, .val (.bool true), .slot 14], none⟩])
 (.cond (.slot 15)
 (.seq
 (.region [
 ⟨(some 2), none, .id, [.val (.bool false)], none⟩])
 (.ret))
 (.skip))))))
def b_value_plain : ICode :=
 .seq
 (.region [
 ⟨(some 2), none, .id, [.val (.bool false)], none⟩])
 (.seq
 (.seq
 (.region [
 ⟨(some 5), none, .id, [.slot 0], none⟩,
 ⟨(some 6), none, .range, [.slot 5], none⟩])
 (.block 0
 (.loop L0_value_plain)))
 (.seq
 (.region [
 ⟨(some 16), none, .id, [.slot 0], none⟩,
 ⟨(some 17), none, .lenstr, [.slot 16], none⟩,
 ⟨(some 18), none, .bin .leq, [.slot 17, .val (.int .i64 64)], none⟩,
 ⟨(some 2), none, .id, [.slot 18], none⟩])
 (.ret)))
def F_value_plain : IFun := ⟨19, [.slot 2], b_value_plain, 6, 0, nofn⟩
theorem c_value_plain : cFun Tryz.prog [] 0 f_value_plain = some F_value_plain := by kernel_rfl

def b_value_Link : ICode :=
 .seq
 (.region [
 ⟨(some 1), none, .boxL, [.slot 0], none⟩,
 ⟨(some 2), none, .allocL [(.str ⟨#[]⟩), (.str ⟨#[]⟩), (.str ⟨#[]⟩)], [], none⟩,
 ⟨(some 3), none, .id, [.val (.bool false)], none⟩])
 (.seq
 (.region [
 ⟨(some 5), none, .faddr 2, [.slot 1], none⟩,
 ⟨(some 6), none, .load 1 false, [.slot 5], none⟩,
 ⟨(some 7), none, .call f_strings_Split, [.slot 6, .val (.str ⟨#[62]⟩)], none⟩,
 ⟨(some 4), none, .id, [.slot 7], none⟩])
 (.seq
 (.seq
 (.region [
 ⟨(some 8), none, .faddr 0, [.slot 1], none⟩,
 ⟨(some 9), none, .load 1 false, [.slot 8], none⟩,
 ⟨(some 10), none, .bin .neq, [.slot 9, .val (.int .i64 5)], none⟩,
 ⟨(some 11), none, .id, [.slot 10], none⟩,
 ⟨(some 12), (some (11, false)), .faddr 1, [.slot 1], none⟩,
 ⟨(some 13), (some (11, false)), .load 1 false, [.slot 12], none⟩,
 ⟨(some 14), (some (11, false)), .bin .neq, [.slot 13, .val (.int .i64 0)], none⟩,
 ⟨(some 15), none, .pick, [.slot 11, .val (.bool true), .slot 14], none⟩,
 ⟨(some 16), none, .id, [.slot 15], none⟩,
 ⟨(some 17), (some (16, false)), .id, [.slot 4], none⟩,
 ⟨(some 18), (some (16, false)), .lensl, [.slot 17], none⟩,
 ⟨(some 19), (some (16, false)), .bin .neq, [.slot 18, .val (.int .i64 3)], none⟩,
 ⟨(some 20), none, .pick, [.slot 16, .val (.bool true), .slot 19], none⟩,
 ⟨(some 21), none, .id, [.slot 20], none⟩,
 ⟨(some 22), (some (21, false)), .id, [.slot 4], none⟩,
 ⟨(some 23), (some (21, false)), .call f_value_names, [.slot 22], none⟩,
 ⟨(some 24), (some (21, false)), .un .not, [.slot 23], none⟩,
 ⟨(some 25), none, .pick, [.slot 21, .val (.bool true), .slot 24], none⟩])
 (.cond (.slot 25)
 (.seq
 (.region [
 ⟨(some 26), none, .build [(.str ⟨#[]⟩), (.str ⟨#[]⟩), (.str ⟨#[]⟩)] [], [], none⟩,
 ⟨none, none, .store 3, [.slot 2, .slot 26], none⟩,
 ⟨(some 3), none, .id, [.val (.bool false)], none⟩])
 (.ret))
 (.skip)))
 (.seq
 (.region [
 ⟨(some 27), none, .id, [.slot 4], none⟩,
 ⟨(some 28), none, .ixaddr 1, [.slot 27, .val (.int .i64 0)], none⟩,
 ⟨(some 29), none, .load 1 false, [.slot 28], (some (.el))⟩,
 ⟨(some 30), none, .id, [.slot 4], none⟩,
 ⟨(some 31), none, .ixaddr 1, [.slot 30, .val (.int .i64 1)], none⟩,
 ⟨(some 32), none, .load 1 false, [.slot 31], (some (.el))⟩,
 ⟨(some 33), none, .id, [.slot 4], none⟩,
 ⟨(some 34), none, .ixaddr 1, [.slot 33, .val (.int .i64 2)], none⟩,
 ⟨(some 35), none, .load 1 false, [.slot 34], (some (.el))⟩,
 ⟨(some 36), none, .build [(.str ⟨#[]⟩), (.str ⟨#[]⟩), (.str ⟨#[]⟩)] [(0, 1), (2, 1), (1, 1)], [.slot 29, .slot 32, .slot 35], none⟩,
 ⟨none, none, .store 3, [.slot 2, .slot 36], (some (.loc 2))⟩,
 ⟨(some 3), none, .id, [.val (.bool true)], none⟩])
 (.ret))))
def F_value_Link : IFun := ⟨37, [.cell 2 3 true, .slot 3], b_value_Link, 6, 0, nofn⟩
theorem c_value_Link : cFun Tryz.prog [1048577, 1048578, 2097396] 0 f_value_Link = some F_value_Link := by kernel_rfl

def F_strings_Split : IFun := ⟨8, [], .trap, 0, 11, nofn⟩

def rows : List (Nat × List Nat × IFun) := [
 (3, [1048577, 1048581, 2097169, 2097171, 2097174, 2097176, 2097175], F_hedgerowlaw12_SnapBytes),
 (4, [1048579, 2097169, 2097174, 2097176, 2097175], F_hedgerowlaw12_SnapParses),
 (17, [1048579, 1048581, 1048583, 2097171, 2097174], F_hedgerowlaw12_fixed),
 (18, [1048577, 1048580, 1048582, 1048584], F_hedgerowlaw12_few),
 (19, [1048577, 1048585, 1048587], F_snap_Bytes),
 (20, [1048577, 1048582, 1048584, 1048587], F_hedgerowlaw12_right),
 (21, [1048577, 1048580, 1048582, 2097233], F_snap_Right),
 (22, [7, 1048578, 1048581, 2097245], F_snap_Parse),
 (23, [1048579, 1048587, 1048591, 1048592, 1048594], F_hedgerowref12_Bytes),
 (24, [1048581, 1048582, 1048584], F_hedgerowlaw12_items),
 (25, [1048578, 1048579], F_snap_Same),
 (26, [1048577], F_hedgerowref06_Short),
 (28, [3], F_store_New),
 (40, [1048579, 1048582], F_store_Store_Put),
 (73, [], F_num_Put),
 (74, [1048579, 1048584], F_snap_putItem),
 (75, [3, 4194307], F_event_Put),
 (76, [1048578, 1048579], F_hedgerowref07_Less),
 (77, [1048577], F_hedgerowref06_Change),
 (78, [1048578, 1048579], F_hedgerowref07_First),
 (79, [1048577, 1048579], F_hedgerowref06_Right),
 (80, [1048577], F_vector_Right),
 (81, [2, 1048579], F_snap_item),
 (82, [1048578, 1048579], F_store_Order),
 (83, [1048577], F_event_Right),
 (84, [1048578, 1048579], F_vector_Knows),
 (85, [5], F_num_Read),
 (86, [2097244], F_num_Reader_Num),
 (87, [2097244], F_snap_rowsstore_Item),
 (88, [2], F_snap_readItem),
 (89, [2097244], F_snap_rowsapi_Event),
 (90, [1048579, 1048580, 2097244], F_snap_Parse_1),
 (91, [1048578, 1048580, 2097244], F_event_Read),
 (92, [], F_num_Reader_Fail),
 (93, [2097244], F_num_Reader_Done),
 (94, [], F_hedgerowref02_Put),
 (95, [], F_hedgerowref02_Text),
 (96, [], F_hedgerowref02_Signed),
 (97, [1048579], F_hedgerowref06_Put),
 (98, [1048578, 1048579], F_snap_Same_1),
 (99, [], F_slices_Equalstore_Entrystore_Entry),
 (100, [1048584, 1048585], F_slices_EqualFuncstore_Itemstore_Itemstore_Itemstore_Item),
 (101, [], F_slices_Equalapi_Eventapi_Event),
 (103, [], F_slices_Clonestore_Entrystore_Entry),
 (106, [1048578, 1048579], F_store_byDot),
 (108, [1048580], F_store_Store_lay),
 (113, [1048577], F_value_Elem),
 (114, [1048578, 1048579], F_store_entry),
 (121, [], F_strings_Join),
 (133, [], F_num_Text),
 (134, [1048579], F_snap_putValue),
 (135, [], F_num_Signed),
 (136, [1048577], F_hedgerowref01_Elem),
 (137, [1048577, 1048579, 2097325], F_hedgerowref01_Right),
 (138, [1048578], F_snap_item_1),
 (139, [], F_slices_ContainsFuncstore_Entrystore_Entry),
 (140, [], F_cmp_Orint),
 (141, [], F_cmp_Compareint),
 (142, [], F_cmp_Comparestring),
 (143, [1048578, 1048579], F_vector_Next),
 (144, [1048577], F_event_Change),
 (145, [1048577, 1048578], F_event_Of),
 (146, [1048577], F_vector_Dot),
 (147, [], F_num_take),
 (148, [2097244], F_num_Reader_Text),
 (149, [2097244], F_snap_rowsstore_Entry),
 (150, [1048578], F_snap_readEntry),
 (151, [2], F_event_next),
 (152, [], F_slices_IndexFuncstore_Entrystore_Entry),
 (157, [], F_value_names),
 (158, [2097273], F_value_empty),
 (171, [], F_hedgerowref01_Name),
 (172, [], F_hedgerowref01_plain),
 (173, [1048578, 3145765, 3145768, 3145771], F_hedgerowref01_Link),
 (174, [], F_cmp_isNaNint),
 (175, [], F_cmp_isNaNstring),
 (176, [1048577], F_event_may),
 (177, [], F_num_Reader_Signed),
 (189, [], F_value_Name),
 (203, [1048577, 1048579], F_value_Right),
 (210, [7, 3145758, 3145766], F_hedgerowref01_Split),
 (211, [1048577], F_event_kept),
 (212, [1048577], F_event_scalar),
 (219, [], F_value_letter),
 (220, [], F_value_inner),
 (234, [], F_value_plain),
 (235, [1048577, 1048578, 2097396], F_value_Link),
 (244, [], F_strings_Split)]
def T : Nat → Option IFun := tableOf rows
theorem T_rows : RowsOk Tryz.prog rows :=
 .cons c_hedgerowlaw12_SnapBytes (by decide) <|
 .cons c_hedgerowlaw12_SnapParses (by decide) <|
 .cons c_hedgerowlaw12_fixed (by decide) <|
 .cons c_hedgerowlaw12_few (by decide) <|
 .cons c_snap_Bytes (by decide) <|
 .cons c_hedgerowlaw12_right (by decide) <|
 .cons c_snap_Right (by decide) <|
 .cons c_snap_Parse (by decide) <|
 .cons c_hedgerowref12_Bytes (by decide) <|
 .cons c_hedgerowlaw12_items (by decide) <|
 .cons c_snap_Same (by decide) <|
 .cons c_hedgerowref06_Short (by decide) <|
 .cons c_store_New (by decide) <|
 .cons c_store_Store_Put (by decide) <|
 .cons c_num_Put (by decide) <|
 .cons c_snap_putItem (by decide) <|
 .cons c_event_Put (by decide) <|
 .cons c_hedgerowref07_Less (by decide) <|
 .cons c_hedgerowref06_Change (by decide) <|
 .cons c_hedgerowref07_First (by decide) <|
 .cons c_hedgerowref06_Right (by decide) <|
 .cons c_vector_Right (by decide) <|
 .cons c_snap_item (by decide) <|
 .cons c_store_Order (by decide) <|
 .cons c_event_Right (by decide) <|
 .cons c_vector_Knows (by decide) <|
 .cons c_num_Read (by decide) <|
 .cons c_num_Reader_Num (by decide) <|
 .cons c_snap_rowsstore_Item (by decide) <|
 .cons c_snap_readItem (by decide) <|
 .cons c_snap_rowsapi_Event (by decide) <|
 .cons c_snap_Parse_1 (by decide) <|
 .cons c_event_Read (by decide) <|
 .cons c_num_Reader_Fail (by decide) <|
 .cons c_num_Reader_Done (by decide) <|
 .cons c_hedgerowref02_Put (by decide) <|
 .cons c_hedgerowref02_Text (by decide) <|
 .cons c_hedgerowref02_Signed (by decide) <|
 .cons c_hedgerowref06_Put (by decide) <|
 .cons c_snap_Same_1 (by decide) <|
 .cons c_slices_Equalstore_Entrystore_Entry (by decide) <|
 .cons c_slices_EqualFuncstore_Itemstore_Itemstore_Itemstore_Item (by decide) <|
 .cons c_slices_Equalapi_Eventapi_Event (by decide) <|
 .cons c_slices_Clonestore_Entrystore_Entry (by decide) <|
 .cons c_store_byDot (by decide) <|
 .cons c_store_Store_lay (by decide) <|
 .cons c_value_Elem (by decide) <|
 .cons c_store_entry (by decide) <|
 .lib lib10 (by decide) <|
 .cons c_num_Text (by decide) <|
 .cons c_snap_putValue (by decide) <|
 .cons c_num_Signed (by decide) <|
 .cons c_hedgerowref01_Elem (by decide) <|
 .cons c_hedgerowref01_Right (by decide) <|
 .cons c_snap_item_1 (by decide) <|
 .cons c_slices_ContainsFuncstore_Entrystore_Entry (by decide) <|
 .cons c_cmp_Orint (by decide) <|
 .cons c_cmp_Compareint (by decide) <|
 .cons c_cmp_Comparestring (by decide) <|
 .cons c_vector_Next (by decide) <|
 .cons c_event_Change (by decide) <|
 .cons c_event_Of (by decide) <|
 .cons c_vector_Dot (by decide) <|
 .cons c_num_take (by decide) <|
 .cons c_num_Reader_Text (by decide) <|
 .cons c_snap_rowsstore_Entry (by decide) <|
 .cons c_snap_readEntry (by decide) <|
 .cons c_event_next (by decide) <|
 .cons c_slices_IndexFuncstore_Entrystore_Entry (by decide) <|
 .cons c_value_names (by decide) <|
 .cons c_value_empty (by decide) <|
 .cons c_hedgerowref01_Name (by decide) <|
 .cons c_hedgerowref01_plain (by decide) <|
 .cons c_hedgerowref01_Link (by decide) <|
 .cons c_cmp_isNaNint (by decide) <|
 .cons c_cmp_isNaNstring (by decide) <|
 .cons c_event_may (by decide) <|
 .cons c_num_Reader_Signed (by decide) <|
 .cons c_value_Name (by decide) <|
 .cons c_value_Right (by decide) <|
 .cons c_hedgerowref01_Split (by decide) <|
 .cons c_event_kept (by decide) <|
 .cons c_event_scalar (by decide) <|
 .cons c_value_letter (by decide) <|
 .cons c_value_inner (by decide) <|
 .cons c_value_plain (by decide) <|
 .cons c_value_Link (by decide) <|
 .lib lib11 (by decide) <|
 .nil
theorem T_ok : TableOk Tryz.prog T := tableOf_ok (by kernel_rfl) T_rows.all
theorem T_hedgerowlaw12_SnapBytes : T f_hedgerowlaw12_SnapBytes = some F_hedgerowlaw12_SnapBytes := by kernel_rfl
theorem T_hedgerowlaw12_SnapParses : T f_hedgerowlaw12_SnapParses = some F_hedgerowlaw12_SnapParses := by kernel_rfl
theorem T_hedgerowlaw12_fixed : T f_hedgerowlaw12_fixed = some F_hedgerowlaw12_fixed := by kernel_rfl
theorem T_hedgerowlaw12_few : T f_hedgerowlaw12_few = some F_hedgerowlaw12_few := by kernel_rfl
theorem T_snap_Bytes : T f_snap_Bytes = some F_snap_Bytes := by kernel_rfl
theorem T_hedgerowlaw12_right : T f_hedgerowlaw12_right = some F_hedgerowlaw12_right := by kernel_rfl
theorem T_snap_Right : T f_snap_Right = some F_snap_Right := by kernel_rfl
theorem T_snap_Parse : T f_snap_Parse = some F_snap_Parse := by kernel_rfl
theorem T_hedgerowref12_Bytes : T f_hedgerowref12_Bytes = some F_hedgerowref12_Bytes := by kernel_rfl
theorem T_hedgerowlaw12_items : T f_hedgerowlaw12_items = some F_hedgerowlaw12_items := by kernel_rfl
theorem T_snap_Same : T f_snap_Same = some F_snap_Same := by kernel_rfl
theorem T_hedgerowref06_Short : T f_hedgerowref06_Short = some F_hedgerowref06_Short := by kernel_rfl
theorem T_store_New : T f_store_New = some F_store_New := by kernel_rfl
theorem T_store_Store_Put : T f_store_Store_Put = some F_store_Store_Put := by kernel_rfl
theorem T_num_Put : T f_num_Put = some F_num_Put := by kernel_rfl
theorem T_snap_putItem : T f_snap_putItem = some F_snap_putItem := by kernel_rfl
theorem T_event_Put : T f_event_Put = some F_event_Put := by kernel_rfl
theorem T_hedgerowref07_Less : T f_hedgerowref07_Less = some F_hedgerowref07_Less := by kernel_rfl
theorem T_hedgerowref06_Change : T f_hedgerowref06_Change = some F_hedgerowref06_Change := by kernel_rfl
theorem T_hedgerowref07_First : T f_hedgerowref07_First = some F_hedgerowref07_First := by kernel_rfl
theorem T_hedgerowref06_Right : T f_hedgerowref06_Right = some F_hedgerowref06_Right := by kernel_rfl
theorem T_vector_Right : T f_vector_Right = some F_vector_Right := by kernel_rfl
theorem T_snap_item : T f_snap_item = some F_snap_item := by kernel_rfl
theorem T_store_Order : T f_store_Order = some F_store_Order := by kernel_rfl
theorem T_event_Right : T f_event_Right = some F_event_Right := by kernel_rfl
theorem T_vector_Knows : T f_vector_Knows = some F_vector_Knows := by kernel_rfl
theorem T_num_Read : T f_num_Read = some F_num_Read := by kernel_rfl
theorem T_num_Reader_Num : T f_num_Reader_Num = some F_num_Reader_Num := by kernel_rfl
theorem T_snap_rowsstore_Item : T f_snap_rowsstore_Item = some F_snap_rowsstore_Item := by kernel_rfl
theorem T_snap_readItem : T f_snap_readItem = some F_snap_readItem := by kernel_rfl
theorem T_snap_rowsapi_Event : T f_snap_rowsapi_Event = some F_snap_rowsapi_Event := by kernel_rfl
theorem T_snap_Parse_1 : T f_snap_Parse_1 = some F_snap_Parse_1 := by kernel_rfl
theorem T_event_Read : T f_event_Read = some F_event_Read := by kernel_rfl
theorem T_num_Reader_Fail : T f_num_Reader_Fail = some F_num_Reader_Fail := by kernel_rfl
theorem T_num_Reader_Done : T f_num_Reader_Done = some F_num_Reader_Done := by kernel_rfl
theorem T_hedgerowref02_Put : T f_hedgerowref02_Put = some F_hedgerowref02_Put := by kernel_rfl
theorem T_hedgerowref02_Text : T f_hedgerowref02_Text = some F_hedgerowref02_Text := by kernel_rfl
theorem T_hedgerowref02_Signed : T f_hedgerowref02_Signed = some F_hedgerowref02_Signed := by kernel_rfl
theorem T_hedgerowref06_Put : T f_hedgerowref06_Put = some F_hedgerowref06_Put := by kernel_rfl
theorem T_snap_Same_1 : T f_snap_Same_1 = some F_snap_Same_1 := by kernel_rfl
theorem T_slices_Equalstore_Entrystore_Entry : T f_slices_Equalstore_Entrystore_Entry = some F_slices_Equalstore_Entrystore_Entry := by kernel_rfl
theorem T_slices_EqualFuncstore_Itemstore_Itemstore_Itemstore_Item : T f_slices_EqualFuncstore_Itemstore_Itemstore_Itemstore_Item = some F_slices_EqualFuncstore_Itemstore_Itemstore_Itemstore_Item := by kernel_rfl
theorem T_slices_Equalapi_Eventapi_Event : T f_slices_Equalapi_Eventapi_Event = some F_slices_Equalapi_Eventapi_Event := by kernel_rfl
theorem T_slices_Clonestore_Entrystore_Entry : T f_slices_Clonestore_Entrystore_Entry = some F_slices_Clonestore_Entrystore_Entry := by kernel_rfl
theorem T_store_byDot : T f_store_byDot = some F_store_byDot := by kernel_rfl
theorem T_store_Store_lay : T f_store_Store_lay = some F_store_Store_lay := by kernel_rfl
theorem T_value_Elem : T f_value_Elem = some F_value_Elem := by kernel_rfl
theorem T_store_entry : T f_store_entry = some F_store_entry := by kernel_rfl
theorem T_strings_Join : T f_strings_Join = some F_strings_Join := by kernel_rfl
theorem T_num_Text : T f_num_Text = some F_num_Text := by kernel_rfl
theorem T_snap_putValue : T f_snap_putValue = some F_snap_putValue := by kernel_rfl
theorem T_num_Signed : T f_num_Signed = some F_num_Signed := by kernel_rfl
theorem T_hedgerowref01_Elem : T f_hedgerowref01_Elem = some F_hedgerowref01_Elem := by kernel_rfl
theorem T_hedgerowref01_Right : T f_hedgerowref01_Right = some F_hedgerowref01_Right := by kernel_rfl
theorem T_snap_item_1 : T f_snap_item_1 = some F_snap_item_1 := by kernel_rfl
theorem T_slices_ContainsFuncstore_Entrystore_Entry : T f_slices_ContainsFuncstore_Entrystore_Entry = some F_slices_ContainsFuncstore_Entrystore_Entry := by kernel_rfl
theorem T_cmp_Orint : T f_cmp_Orint = some F_cmp_Orint := by kernel_rfl
theorem T_cmp_Compareint : T f_cmp_Compareint = some F_cmp_Compareint := by kernel_rfl
theorem T_cmp_Comparestring : T f_cmp_Comparestring = some F_cmp_Comparestring := by kernel_rfl
theorem T_vector_Next : T f_vector_Next = some F_vector_Next := by kernel_rfl
theorem T_event_Change : T f_event_Change = some F_event_Change := by kernel_rfl
theorem T_event_Of : T f_event_Of = some F_event_Of := by kernel_rfl
theorem T_vector_Dot : T f_vector_Dot = some F_vector_Dot := by kernel_rfl
theorem T_num_take : T f_num_take = some F_num_take := by kernel_rfl
theorem T_num_Reader_Text : T f_num_Reader_Text = some F_num_Reader_Text := by kernel_rfl
theorem T_snap_rowsstore_Entry : T f_snap_rowsstore_Entry = some F_snap_rowsstore_Entry := by kernel_rfl
theorem T_snap_readEntry : T f_snap_readEntry = some F_snap_readEntry := by kernel_rfl
theorem T_event_next : T f_event_next = some F_event_next := by kernel_rfl
theorem T_slices_IndexFuncstore_Entrystore_Entry : T f_slices_IndexFuncstore_Entrystore_Entry = some F_slices_IndexFuncstore_Entrystore_Entry := by kernel_rfl
theorem T_value_names : T f_value_names = some F_value_names := by kernel_rfl
theorem T_value_empty : T f_value_empty = some F_value_empty := by kernel_rfl
theorem T_hedgerowref01_Name : T f_hedgerowref01_Name = some F_hedgerowref01_Name := by kernel_rfl
theorem T_hedgerowref01_plain : T f_hedgerowref01_plain = some F_hedgerowref01_plain := by kernel_rfl
theorem T_hedgerowref01_Link : T f_hedgerowref01_Link = some F_hedgerowref01_Link := by kernel_rfl
theorem T_cmp_isNaNint : T f_cmp_isNaNint = some F_cmp_isNaNint := by kernel_rfl
theorem T_cmp_isNaNstring : T f_cmp_isNaNstring = some F_cmp_isNaNstring := by kernel_rfl
theorem T_event_may : T f_event_may = some F_event_may := by kernel_rfl
theorem T_num_Reader_Signed : T f_num_Reader_Signed = some F_num_Reader_Signed := by kernel_rfl
theorem T_value_Name : T f_value_Name = some F_value_Name := by kernel_rfl
theorem T_value_Right : T f_value_Right = some F_value_Right := by kernel_rfl
theorem T_hedgerowref01_Split : T f_hedgerowref01_Split = some F_hedgerowref01_Split := by kernel_rfl
theorem T_event_kept : T f_event_kept = some F_event_kept := by kernel_rfl
theorem T_event_scalar : T f_event_scalar = some F_event_scalar := by kernel_rfl
theorem T_value_letter : T f_value_letter = some F_value_letter := by kernel_rfl
theorem T_value_inner : T f_value_inner = some F_value_inner := by kernel_rfl
theorem T_value_plain : T f_value_plain = some F_value_plain := by kernel_rfl
theorem T_value_Link : T f_value_Link = some F_value_Link := by kernel_rfl
theorem T_strings_Split : T f_strings_Split = some F_strings_Split := by kernel_rfl
end Go.Proofs.YthbhfipgdinihaaGreatDoor
