/- Own work: the shadow machine and what it shows, part Fun. -/
import Derived.Test.YtlmiihdkgaljoaaGreatDoorChecked
import Derived.Test.YtlmiihdkgaljoaaGreatDoorShT
import Derived.Test.YtlmiihdkgaljoaaGreatDoorLib
set_option linter.all false

namespace Go.Proofs.YtlmiihdkgaljoaaGreatDoor
open Go.Sh
set_option maxRecDepth 100000

abbrev f_hedgerowlaw18_LexLong : Nat := 3
abbrev f_hedgerowlaw18_LexBlanks : Nat := 4
abbrev f_hedgerowlaw18_LexTokens : Nat := 5
abbrev f_hedgerowlaw18_fixed : Nat := 6
abbrev f_lex_Tokens : Nat := 7
abbrev f_lex_Text : Nat := 8
abbrev f_hedgerowlaw18_same : Nat := 9
abbrev f_hedgerowref18_Tokens : Nat := 10
abbrev f_lex_Is : Nat := 11
abbrev f_lex_Words : Nat := 12
abbrev f_lex_Signs : Nat := 13
abbrev f_strings_TrimLeft : Nat := 14
abbrev f_lex_next : Nat := 15
abbrev f_lex_one : Nat := 16
abbrev f_strings_Join : Nat := 17
abbrev f_hedgerowref18_size : Nat := 18
abbrev f_hedgerowref18_guess : Nat := 19
abbrev f_hedgerowref18_One : Nat := 20
abbrev f_strings_trimLeftByte : Nat := 21
abbrev f_strings_makeASCIISet : Nat := 22
abbrev f_strings_trimLeftASCII : Nat := 23
abbrev f_strings_trimLeftUnicode : Nat := 24
abbrev f_lex_letter : Nat := 25
abbrev f_lex_name : Nat := 26
abbrev f_lex_digit : Nat := 27
abbrev f_lex_number : Nat := 28
abbrev f_lex_text : Nat := 29
abbrev f_lex_sign : Nat := 30
abbrev f_value_Name : Nat := 31
abbrev f_slices_Containsstringstring : Nat := 32
abbrev f_strconv_Itoa : Nat := 33
abbrev f_value_String : Nat := 34
abbrev f_value_Right : Nat := 35
abbrev f_strings_Builder_String : Nat := 38
abbrev f_hedgerowref18_run : Nat := 39
abbrev f_hedgerowref18_text : Nat := 40
abbrev f_hedgerowref18_in : Nat := 41
abbrev f_hedgerowref18_Signs : Nat := 42
abbrev f_hedgerowref01_Parse : Nat := 43
abbrev f_hedgerowref18_Words : Nat := 44
abbrev f_hedgerowref01_Name : Nat := 45
abbrev f_hedgerowref01_Digits : Nat := 46
abbrev f_hedgerowref01_Text : Nat := 47
abbrev f_hedgerowref01_Right : Nat := 48
abbrev f_strings_asciiSet_contains : Nat := 49
abbrev f_unicode_utf8_DecodeRuneInString : Nat := 50
abbrev f_strings_ContainsRune : Nat := 51
abbrev f_lex_while : Nat := 52
abbrev f_lex_inner : Nat := 53
abbrev f_strconv_Atoi : Nat := 54
abbrev f_value_Parse : Nat := 55
abbrev f_strings_HasPrefix : Nat := 56
abbrev f_value_letter : Nat := 57
abbrev f_value_inner : Nat := 58
abbrev f_slices_Indexstringstring : Nat := 59
abbrev f_strconv_FormatBool : Nat := 61
abbrev f_value_quoted : Nat := 62
abbrev f_value_plain : Nat := 63
abbrev f_value_Link : Nat := 64
abbrev f_strings_Builder_copyCheck : Nat := 65
abbrev f_hedgerowref01_number : Nat := 67
abbrev f_hedgerowref01_plain : Nat := 68
abbrev f_hedgerowref01_Link : Nat := 69
abbrev f_unicode_utf8_decodeRuneInStringSlow : Nat := 70
abbrev f_strings_IndexRune : Nat := 71
abbrev f_value_guess : Nat := 74
abbrev f_stringslite_HasPrefix : Nat := 75
abbrev f_strconv_FormatBool_77 : Nat := 77
abbrev f_strings_Builder_WriteByte : Nat := 78
abbrev f_strings_Split : Nat := 79
abbrev f_value_names : Nat := 80
abbrev f_hedgerowref01_Split : Nat := 83
abbrev f_value_unquoted : Nat := 93
def L0_hedgerowlaw18_LexLong : ICode :=
 .seq
 (.region [
 ⟨(some 17), none, .bin .lss, [.slot 16, .slot 15], none⟩])
 (.seq
 (.cond (.slot 17)
 (.skip)
 (.exit 0))
 (.seq
 (.block 1
 (.seq
 (.region [
 ⟨(some 18), none, .id, [.slot 16], none⟩,
 ⟨(some 4), none, .id, [.slot 18], none⟩])
 (.region [
 ⟨(some 19), none, .id, [.slot 3], none⟩,
 ⟨(some 20), none, .id, [.slot 4], none⟩,
 ⟨(some 21), none, .ixaddr 1, [.slot 19, .slot 20], none⟩,
 ⟨none, none, .store 1, [.slot 21, .val (.int .u8 43)], none⟩])))
 (.region [
 ⟨(some 22), none, .bin .add, [.slot 16, .val (.int .i64 1)], none⟩,
 ⟨(some 16), none, .id, [.slot 22], none⟩])))
def b_hedgerowlaw18_LexLong : ICode :=
 .seq
 (.region [
 ⟨(some 2), none, .id, [.val (.bool false)], none⟩])
 (.seq
 (.seq
 (.region [
 ⟨(some 7), none, .call f_hedgerowlaw18_fixed, [], none⟩,
 ⟨(some 8), none, .un .not, [.slot 7], none⟩])
 (.cond (.slot 8)
 (.seq
 (.region [
 ⟨(some 2), none, .id, [.val (.bool false)], none⟩])
 (.ret))
 (.skip)))
 (.seq
 (.region [
 ⟨(some 9), none, .id, [.slot 0], none⟩,
 ⟨(some 10), none, .bin .rem, [.slot 9, .val (.int .u8 3)], none⟩,
 ⟨(some 11), none, .conv .i64, [.slot 10], none⟩,
 ⟨(some 12), none, .bin .add, [.val (.int .i64 2000), .slot 11], none⟩,
 ⟨(some 13), none, .makeR 5 1 1 (.int .u8 0), [.slot 12, .slot 12], none⟩,
 ⟨(some 3), none, .id, [.slot 13], none⟩])
 (.seq
 (.seq
 (.region [
 ⟨(some 14), none, .id, [.slot 3], none⟩,
 ⟨(some 15), none, .lensl, [.slot 14], none⟩,
 ⟨(some 16), none, .id, [.val (.int .i64 0)], none⟩])
 (.block 0
 (.loop L0_hedgerowlaw18_LexLong)))
 (.seq
 (.region [
 ⟨(some 24), none, .id, [.slot 3], none⟩,
 ⟨(some 25), none, .b2r, [.slot 24], none⟩,
 ⟨(some 26), none, .call f_lex_Tokens, [.slot 25], none⟩,
 ⟨(some 23), none, .id, [.slot 26], none⟩,
 ⟨(some 27), none, .extract 0, [.slot 23], none⟩,
 ⟨(some 28), none, .extract 1, [.slot 23], none⟩,
 ⟨(some 5), none, .id, [.slot 27], none⟩,
 ⟨(some 6), none, .id, [.slot 28], none⟩])
 (.seq
 (.seq
 (.region [
 ⟨(some 29), none, .id, [.slot 0], none⟩,
 ⟨(some 30), none, .bin .rem, [.slot 29, .val (.int .u8 3)], none⟩,
 ⟨(some 31), none, .bin .gtr, [.slot 30, .val (.int .u8 0)], none⟩])
 (.cond (.slot 31)
 (.seq
 (.region [
 ⟨(some 32), none, .id, [.slot 6], none⟩,
 ⟨(some 33), none, .bin .eql, [.slot 32, .val (.int .i64 3)], none⟩,
 ⟨(some 34), none, .id, [.slot 33], none⟩,
 ⟨(some 35), (some (34, true)), .id, [.slot 5], none⟩,
 ⟨(some 36), (some (34, true)), .lensl, [.slot 35], none⟩,
 ⟨(some 37), (some (34, true)), .bin .eql, [.slot 36, .val (.int .i64 0)], none⟩,
 ⟨(some 38), none, .pick, [.slot 34, .slot 37, .val (.bool false)], none⟩,
 ⟨(some 2), none, .id, [.slot 38], none⟩])
 (.ret))
 (.skip)))
 (.seq
 (.region [
 ⟨(some 39), none, .id, [.slot 6], none⟩,
 ⟨(some 40), none, .bin .eql, [.slot 39, .val (.int .i64 0)], none⟩,
 ⟨(some 41), none, .id, [.slot 40], none⟩,
 ⟨(some 42), (some (41, true)), .id, [.slot 5], none⟩,
 ⟨(some 43), (some (41, true)), .lensl, [.slot 42], none⟩,
 ⟨(some 44), (some (41, true)), .bin .eql, [.slot 43, .val (.int .i64 2000)], none⟩,
 ⟨(some 45), none, .pick, [.slot 41, .slot 44, .val (.bool false)], none⟩,
 ⟨(some 2), none, .id, [.slot 45], none⟩])
 (.ret)))))))
def F_hedgerowlaw18_LexLong : IFun := ⟨46, [.slot 2], b_hedgerowlaw18_LexLong, 8, 0, nofn⟩
theorem c_hedgerowlaw18_LexLong : cFun Tryz.prog [2097158, 2097159, 25] 0 f_hedgerowlaw18_LexLong = some F_hedgerowlaw18_LexLong := by kernel_rfl

def L0_hedgerowlaw18_LexBlanks : ICode :=
 .seq
 (.region [
 ⟨(some 51), none, .bin .lss, [.slot 50, .slot 49], none⟩])
 (.seq
 (.cond (.slot 51)
 (.skip)
 (.exit 2))
 (.seq
 (.block 3
 (.region [
 ⟨(some 52), none, .id, [.slot 5], none⟩,
 ⟨(some 53), none, .bin .add, [.slot 52, .val (.str ⟨#[32]⟩)], none⟩,
 ⟨(some 5), none, .id, [.slot 53], none⟩]))
 (.region [
 ⟨(some 54), none, .bin .add, [.slot 50, .val (.int .i64 1)], none⟩,
 ⟨(some 50), none, .id, [.slot 54], none⟩])))
def L1_hedgerowlaw18_LexBlanks : ICode :=
 .seq
 (.region [
 ⟨(some 21), none, .bin .lss, [.slot 20, .slot 19], none⟩])
 (.seq
 (.cond (.slot 21)
 (.skip)
 (.exit 0))
 (.seq
 (.block 1
 (.seq
 (.region [
 ⟨(some 22), none, .id, [.slot 20], none⟩,
 ⟨(some 23), none, .ixaddr 3, [.slot 18, .slot 20], none⟩,
 ⟨(some 24), none, .load 3 true, [.slot 23], none⟩,
 ⟨(some 7), none, .allocL [(.int .i64 0), (.int .i64 0), (.str ⟨#[]⟩)], [], none⟩,
 ⟨(some 6), none, .id, [.slot 22], none⟩,
 ⟨none, none, .store 3, [.slot 7, .slot 24], none⟩])
 (.seq
 (.seq
 (.region [
 ⟨(some 25), none, .faddr 2, [.slot 7], none⟩,
 ⟨(some 26), none, .load 1 false, [.slot 25], none⟩,
 ⟨(some 27), none, .lenstr, [.slot 26], none⟩,
 ⟨(some 28), none, .bin .gtr, [.slot 27, .val (.int .i64 60)], none⟩])
 (.cond (.slot 28)
 (.seq
 (.region [
 ⟨(some 4), none, .id, [.val (.bool true)], none⟩])
 (.ret))
 (.skip)))
 (.seq
 (.region [
 ⟨(some 30), none, .load 3 true, [.slot 7], none⟩,
 ⟨(some 31), none, .buildSl 3 1 (.agg [(.int .i64 0), (.int .i64 0), (.str ⟨#[]⟩)]) [0], [.slot 30], none⟩,
 ⟨(some 32), none, .call f_lex_Text, [.slot 31], none⟩,
 ⟨(some 29), none, .id, [.slot 32], none⟩,
 ⟨(some 33), none, .extract 0, [.slot 29], none⟩,
 ⟨(some 34), none, .extract 1, [.slot 29], none⟩,
 ⟨(some 8), none, .id, [.slot 33], none⟩,
 ⟨(some 9), none, .id, [.slot 34], none⟩])
 (.seq
 (.seq
 (.region [
 ⟨(some 35), none, .id, [.slot 9], none⟩,
 ⟨(some 36), none, .un .not, [.slot 35], none⟩])
 (.cond (.slot 36)
 (.seq
 (.region [
 ⟨(some 4), none, .id, [.val (.bool true)], none⟩])
 (.ret))
 (.skip)))
 (.seq
 (.region [
 ⟨(some 10), none, .id, [.val (.int .i64 1)], none⟩])
 (.seq
 (.seq
 (.region [
 ⟨(some 37), none, .id, [.slot 6], none⟩,
 ⟨(some 38), none, .id, [.slot 1], none⟩,
 ⟨(some 39), none, .lensl, [.slot 38], none⟩,
 ⟨(some 40), none, .bin .lss, [.slot 37, .slot 39], none⟩])
 (.cond (.slot 40)
 (.region [
 ⟨(some 41), none, .id, [.slot 10], none⟩,
 ⟨(some 42), none, .id, [.slot 1], none⟩,
 ⟨(some 43), none, .id, [.slot 6], none⟩,
 ⟨(some 44), none, .ixaddr 1, [.slot 42, .slot 43], none⟩,
 ⟨(some 45), none, .load 1 false, [.slot 44], none⟩,
 ⟨(some 46), none, .bin .rem, [.slot 45, .val (.int .u8 4)], none⟩,
 ⟨(some 47), none, .conv .i64, [.slot 46], none⟩,
 ⟨(some 48), none, .bin .add, [.slot 41, .slot 47], none⟩,
 ⟨(some 10), none, .id, [.slot 48], none⟩])
 (.skip)))
 (.seq
 (.seq
 (.region [
 ⟨(some 49), none, .id, [.slot 10], none⟩,
 ⟨(some 50), none, .id, [.val (.int .i64 0)], none⟩])
 (.block 2
 (.loop L0_hedgerowlaw18_LexBlanks)))
 (.region [
 ⟨(some 55), none, .id, [.slot 5], none⟩,
 ⟨(some 56), none, .id, [.slot 8], none⟩,
 ⟨(some 57), none, .bin .add, [.slot 55, .slot 56], none⟩,
 ⟨(some 5), none, .id, [.slot 57], none⟩])))))))))
 (.region [
 ⟨(some 58), none, .bin .add, [.slot 20, .val (.int .i64 1)], none⟩,
 ⟨(some 20), none, .id, [.slot 58], none⟩])))
def b_hedgerowlaw18_LexBlanks : ICode :=
 .seq
 (.region [
 ⟨(some 4), none, .id, [.val (.bool false)], none⟩])
 (.seq
 (.seq
 (.region [
 ⟨(some 13), none, .call f_hedgerowlaw18_fixed, [], none⟩,
 ⟨(some 14), none, .un .not, [.slot 13], none⟩])
 (.cond (.slot 14)
 (.seq
 (.region [
 ⟨(some 4), none, .id, [.val (.bool false)], none⟩])
 (.ret))
 (.skip)))
 (.seq
 (.seq
 (.region [
 ⟨(some 15), none, .id, [.slot 0], none⟩,
 ⟨(some 16), none, .lensl, [.slot 15], none⟩,
 ⟨(some 17), none, .bin .gtr, [.slot 16, .val (.int .i64 30)], none⟩])
 (.cond (.slot 17)
 (.seq
 (.region [
 ⟨(some 4), none, .id, [.val (.bool true)], none⟩])
 (.ret))
 (.skip)))
 (.seq
 (.region [
 ⟨(some 5), none, .id, [.val (.str ⟨#[]⟩)], none⟩])
 (.seq
 (.seq
 (.region [
 ⟨(some 18), none, .id, [.slot 0], none⟩,
 ⟨(some 19), none, .lensl, [.slot 18], none⟩,
 ⟨(some 20), none, .id, [.val (.int .i64 0)], none⟩])
 (.block 0
 (.loop L1_hedgerowlaw18_LexBlanks)))
 (.seq
 (.seq
 (.region [
 ⟨(some 59), none, .id, [.slot 5], none⟩,
 ⟨(some 60), none, .lenstr, [.slot 59], none⟩,
 ⟨(some 61), none, .bin .gtr, [.slot 60, .val (.int .i64 1900)], none⟩])
 (.cond (.slot 61)
 (.seq
 (.region [
 ⟨(some 4), none, .id, [.val (.bool true)], none⟩])
 (.ret))
 (.skip)))
 (.seq
 (.region [
 ⟨(some 63), none, .id, [.slot 5], none⟩,
 ⟨(some 64), none, .bin .add, [.slot 63, .val (.str ⟨#[32, 32]⟩)], none⟩,
 ⟨(some 65), none, .call f_lex_Tokens, [.slot 64], none⟩,
 ⟨(some 62), none, .id, [.slot 65], none⟩,
 ⟨(some 66), none, .extract 0, [.slot 62], none⟩,
 ⟨(some 67), none, .extract 1, [.slot 62], none⟩,
 ⟨(some 11), none, .id, [.slot 66], none⟩,
 ⟨(some 12), none, .id, [.slot 67], none⟩])
 (.seq
 (.region [
 ⟨(some 68), none, .id, [.slot 12], none⟩,
 ⟨(some 69), none, .bin .eql, [.slot 68, .val (.int .i64 0)], none⟩,
 ⟨(some 70), none, .id, [.slot 69], none⟩,
 ⟨(some 71), (some (70, true)), .id, [.slot 0], none⟩,
 ⟨(some 72), (some (70, true)), .id, [.slot 11], none⟩,
 ⟨(some 73), (some (70, true)), .call f_hedgerowlaw18_same, [.slot 71, .slot 72], none⟩,
 ⟨(some 74), none, .pick, [.slot 70, .slot 73, .val (.bool false)], none⟩,
 ⟨(some 4), none, .id, [.slot 74], none⟩])
 (.ret))))))))
def F_hedgerowlaw18_LexBlanks : IFun := ⟨75, [.slot 4], b_hedgerowlaw18_LexBlanks, 8, 0, nofn⟩
theorem c_hedgerowlaw18_LexBlanks : cFun Tryz.prog [1048583, 2097158, 2097160, 2097159] 0 f_hedgerowlaw18_LexBlanks = some F_hedgerowlaw18_LexBlanks := by kernel_rfl

def b_hedgerowlaw18_LexTokens : ICode :=
 .seq
 (.region [
 ⟨(some 2), none, .id, [.val (.bool false)], none⟩])
 (.seq
 (.seq
 (.region [
 ⟨(some 11), none, .call f_hedgerowlaw18_fixed, [], none⟩,
 ⟨(some 12), none, .un .not, [.slot 11], none⟩])
 (.cond (.slot 12)
 (.seq
 (.region [
 ⟨(some 2), none, .id, [.val (.bool false)], none⟩])
 (.ret))
 (.skip)))
 (.seq
 (.seq
 (.region [
 ⟨(some 13), none, .id, [.slot 0], none⟩,
 ⟨(some 14), none, .lenstr, [.slot 13], none⟩,
 ⟨(some 15), none, .bin .gtr, [.slot 14, .val (.int .i64 400)], none⟩])
 (.cond (.slot 15)
 (.seq
 (.region [
 ⟨(some 2), none, .id, [.val (.bool true)], none⟩])
 (.ret))
 (.skip)))
 (.seq
 (.region [
 ⟨(some 17), none, .id, [.slot 0], none⟩,
 ⟨(some 18), none, .call f_lex_Tokens, [.slot 17], none⟩,
 ⟨(some 16), none, .id, [.slot 18], none⟩,
 ⟨(some 19), none, .extract 0, [.slot 16], none⟩,
 ⟨(some 20), none, .extract 1, [.slot 16], none⟩,
 ⟨(some 3), none, .id, [.slot 19], none⟩,
 ⟨(some 4), none, .id, [.slot 20], none⟩])
 (.seq
 (.region [
 ⟨(some 22), none, .id, [.slot 0], none⟩,
 ⟨(some 23), none, .call f_hedgerowref18_Tokens, [.slot 22], none⟩,
 ⟨(some 21), none, .id, [.slot 23], none⟩,
 ⟨(some 24), none, .extract 0, [.slot 21], none⟩,
 ⟨(some 25), none, .extract 1, [.slot 21], none⟩,
 ⟨(some 5), none, .id, [.slot 24], none⟩,
 ⟨(some 6), none, .id, [.slot 25], none⟩])
 (.seq
 (.seq
 (.region [
 ⟨(some 26), none, .id, [.slot 4], none⟩,
 ⟨(some 27), none, .id, [.slot 6], none⟩,
 ⟨(some 28), none, .bin .neq, [.slot 26, .slot 27], none⟩,
 ⟨(some 29), none, .id, [.slot 28], none⟩,
 ⟨(some 30), (some (29, false)), .id, [.slot 3], none⟩,
 ⟨(some 31), (some (29, false)), .id, [.slot 5], none⟩,
 ⟨(some 32), (some (29, false)), .call f_hedgerowlaw18_same, [.slot 30, .slot 31], none⟩,
 ⟨(some 33), (some (29, false)), .un .not, [.slot 32], none⟩,
 ⟨(some 34), none, .pick, [.slot 29, .val (.bool true), .slot 33], none⟩])
 (.cond (.slot 34)
 (.seq
 (.region [
 ⟨(some 2), none, .id, [.val (.bool false)], none⟩])
 (.ret))
 (.skip)))
 (.seq
 (.seq
 (.region [
 ⟨(some 35), none, .id, [.slot 4], none⟩,
 ⟨(some 36), none, .bin .neq, [.slot 35, .val (.int .i64 0)], none⟩])
 (.cond (.slot 36)
 (.seq
 (.region [
 ⟨(some 2), none, .id, [.val (.bool true)], none⟩])
 (.ret))
 (.skip)))
 (.seq
 (.region [
 ⟨(some 38), none, .id, [.slot 3], none⟩,
 ⟨(some 39), none, .call f_lex_Text, [.slot 38], none⟩,
 ⟨(some 37), none, .id, [.slot 39], none⟩,
 ⟨(some 40), none, .extract 0, [.slot 37], none⟩,
 ⟨(some 41), none, .extract 1, [.slot 37], none⟩,
 ⟨(some 7), none, .id, [.slot 40], none⟩,
 ⟨(some 8), none, .id, [.slot 41], none⟩])
 (.seq
 (.region [
 ⟨(some 43), none, .id, [.slot 7], none⟩,
 ⟨(some 44), none, .call f_lex_Tokens, [.slot 43], none⟩,
 ⟨(some 42), none, .id, [.slot 44], none⟩,
 ⟨(some 45), none, .extract 0, [.slot 42], none⟩,
 ⟨(some 46), none, .extract 1, [.slot 42], none⟩,
 ⟨(some 9), none, .id, [.slot 45], none⟩,
 ⟨(some 10), none, .id, [.slot 46], none⟩])
 (.seq
 (.region [
 ⟨(some 47), none, .id, [.slot 8], none⟩,
 ⟨(some 48), none, .id, [.slot 47], none⟩,
 ⟨(some 49), (some (48, true)), .id, [.slot 10], none⟩,
 ⟨(some 50), (some (48, true)), .bin .eql, [.slot 49, .val (.int .i64 0)], none⟩,
 ⟨(some 51), none, .pick, [.slot 48, .slot 50, .val (.bool false)], none⟩,
 ⟨(some 52), none, .id, [.slot 51], none⟩,
 ⟨(some 53), (some (52, true)), .id, [.slot 3], none⟩,
 ⟨(some 54), (some (52, true)), .id, [.slot 9], none⟩,
 ⟨(some 55), (some (52, true)), .call f_hedgerowlaw18_same, [.slot 53, .slot 54], none⟩,
 ⟨(some 56), none, .pick, [.slot 52, .slot 55, .val (.bool false)], none⟩,
 ⟨(some 2), none, .id, [.slot 56], none⟩])
 (.ret))))))))))
def F_hedgerowlaw18_LexTokens : IFun := ⟨57, [.slot 2], b_hedgerowlaw18_LexTokens, 8, 0, nofn⟩
theorem c_hedgerowlaw18_LexTokens : cFun Tryz.prog [2097158, 2097159, 2097162, 2097160] 0 f_hedgerowlaw18_LexTokens = some F_hedgerowlaw18_LexTokens := by kernel_rfl

def b_hedgerowlaw18_fixed : ICode :=
 .seq
 (.region [
 ⟨(some 0), none, .id, [.val (.bool false)], none⟩])
 (.seq
 (.region [
 ⟨(some 8), none, .call f_lex_Tokens, [.val (.str ⟨#[97, 46, 98, 62, 61, 51, 32, 79, 82, 32, 39, 105, 116, 92, 39, 115, 39]⟩)], none⟩,
 ⟨(some 7), none, .id, [.slot 8], none⟩,
 ⟨(some 9), none, .extract 0, [.slot 7], none⟩,
 ⟨(some 10), none, .extract 1, [.slot 7], none⟩,
 ⟨(some 1), none, .id, [.slot 9], none⟩,
 ⟨(some 2), none, .id, [.slot 10], none⟩])
 (.seq
 (.region [
 ⟨(some 12), none, .id, [.slot 1], none⟩,
 ⟨(some 13), none, .call f_lex_Text, [.slot 12], none⟩,
 ⟨(some 11), none, .id, [.slot 13], none⟩,
 ⟨(some 14), none, .extract 0, [.slot 11], none⟩,
 ⟨(some 15), none, .extract 1, [.slot 11], none⟩,
 ⟨(some 3), none, .id, [.slot 14], none⟩,
 ⟨(some 4), none, .id, [.slot 15], none⟩])
 (.seq
 (.region [
 ⟨(some 17), none, .call f_lex_Tokens, [.val (.str ⟨#[48, 51]⟩)], none⟩,
 ⟨(some 16), none, .id, [.slot 17], none⟩,
 ⟨(some 18), none, .extract 0, [.slot 16], none⟩,
 ⟨(some 19), none, .extract 1, [.slot 16], none⟩,
 ⟨(some 5), none, .id, [.slot 18], none⟩,
 ⟨(some 6), none, .id, [.slot 19], none⟩])
 (.seq
 (.region [
 ⟨(some 20), none, .id, [.slot 2], none⟩,
 ⟨(some 21), none, .bin .eql, [.slot 20, .val (.int .i64 0)], none⟩,
 ⟨(some 22), none, .id, [.slot 21], none⟩,
 ⟨(some 23), (some (22, true)), .id, [.slot 1], none⟩,
 ⟨(some 24), (some (22, true)), .lensl, [.slot 23], none⟩,
 ⟨(some 25), (some (22, true)), .bin .eql, [.slot 24, .val (.int .i64 7)], none⟩,
 ⟨(some 26), none, .pick, [.slot 22, .slot 25, .val (.bool false)], none⟩,
 ⟨(some 27), none, .id, [.slot 26], none⟩,
 ⟨(some 28), (some (27, true)), .id, [.slot 1], none⟩,
 ⟨(some 29), (some (27, true)), .ixaddr 3, [.slot 28, .val (.int .i64 3)], none⟩,
 ⟨(some 30), (some (27, true)), .load 3 true, [.slot 29], none⟩,
 ⟨(some 31), (some (27, true)), .build [(.int .i64 0), (.int .i64 0), (.str ⟨#[]⟩)] [(0, 1), (2, 1)], [.val (.int .i64 5), .val (.str ⟨#[62, 61]⟩)], none⟩,
 ⟨(some 32), (some (27, true)), .eqv false [(.int .i64), (.int .i64), .str], [.slot 30, .slot 31], none⟩,
 ⟨(some 33), none, .pick, [.slot 27, .slot 32, .val (.bool false)], none⟩,
 ⟨(some 34), none, .id, [.slot 33], none⟩,
 ⟨(some 35), (some (34, true)), .id, [.slot 1], none⟩,
 ⟨(some 36), (some (34, true)), .ixaddr 3, [.slot 35, .val (.int .i64 4)], none⟩,
 ⟨(some 37), (some (34, true)), .load 3 true, [.slot 36], none⟩,
 ⟨(some 38), (some (34, true)), .build [(.int .i64 0), (.int .i64 0), (.str ⟨#[]⟩)] [(0, 1), (1, 1)], [.val (.int .i64 3), .val (.int .i64 3)], none⟩,
 ⟨(some 39), (some (34, true)), .eqv false [(.int .i64), (.int .i64), .str], [.slot 37, .slot 38], none⟩,
 ⟨(some 40), none, .pick, [.slot 34, .slot 39, .val (.bool false)], none⟩,
 ⟨(some 41), none, .id, [.slot 40], none⟩,
 ⟨(some 42), (some (41, true)), .id, [.slot 1], none⟩,
 ⟨(some 43), (some (41, true)), .ixaddr 3, [.slot 42, .val (.int .i64 5)], none⟩,
 ⟨(some 44), (some (41, true)), .load 3 true, [.slot 43], none⟩,
 ⟨(some 45), (some (41, true)), .call f_lex_Is, [.slot 44, .val (.str ⟨#[79, 82]⟩)], none⟩,
 ⟨(some 46), none, .pick, [.slot 41, .slot 45, .val (.bool false)], none⟩,
 ⟨(some 47), none, .id, [.slot 46], none⟩,
 ⟨(some 48), (some (47, true)), .id, [.slot 1], none⟩,
 ⟨(some 49), (some (47, true)), .ixaddr 3, [.slot 48, .val (.int .i64 6)], none⟩,
 ⟨(some 50), (some (47, true)), .faddr 2, [.slot 49], none⟩,
 ⟨(some 51), (some (47, true)), .load 1 false, [.slot 50], none⟩,
 ⟨(some 52), (some (47, true)), .bin .eql, [.slot 51, .val (.str ⟨#[105, 116, 39, 115]⟩)], none⟩,
 ⟨(some 53), none, .pick, [.slot 47, .slot 52, .val (.bool false)], none⟩,
 ⟨(some 54), none, .id, [.slot 53], none⟩,
 ⟨(some 55), (some (54, true)), .id, [.slot 4], none⟩,
 ⟨(some 56), none, .pick, [.slot 54, .slot 55, .val (.bool false)], none⟩,
 ⟨(some 57), none, .id, [.slot 56], none⟩,
 ⟨(some 58), (some (57, true)), .id, [.slot 3], none⟩,
 ⟨(some 59), (some (57, true)), .bin .eql, [.slot 58, .val (.str ⟨#[97, 32, 46, 32, 98, 32, 62, 61, 32, 51, 32, 79, 82, 32, 39, 105, 116, 92, 39, 115, 39]⟩)], none⟩,
 ⟨(some 60), none, .pick, [.slot 57, .slot 59, .val (.bool false)], none⟩,
 ⟨(some 61), none, .id, [.slot 60], none⟩,
 ⟨(some 62), (some (61, true)), .id, [.slot 6], none⟩,
 ⟨(some 63), (some (61, true)), .bin .eql, [.slot 62, .val (.int .i64 10)], none⟩,
 ⟨(some 64), none, .pick, [.slot 61, .slot 63, .val (.bool false)], none⟩,
 ⟨(some 65), none, .id, [.slot 64], none⟩,
 ⟨(some 66), (some (65, true)), .call f_lex_Words, [], none⟩,
 ⟨(some 67), (some (65, true)), .lensl, [.slot 66], none⟩,
 ⟨(some 68), (some (65, true)), .bin .eql, [.slot 67, .val (.int .i64 26)], none⟩,
 ⟨(some 69), none, .pick, [.slot 65, .slot 68, .val (.bool false)], none⟩,
 ⟨(some 70), none, .id, [.slot 69], none⟩,
 ⟨(some 71), (some (70, true)), .call f_lex_Signs, [], none⟩,
 ⟨(some 72), (some (70, true)), .lensl, [.slot 71], none⟩,
 ⟨(some 73), (some (70, true)), .bin .eql, [.slot 72, .val (.int .i64 20)], none⟩,
 ⟨(some 74), none, .pick, [.slot 70, .slot 73, .val (.bool false)], none⟩,
 ⟨(some 0), none, .id, [.slot 74], none⟩])
 (.ret)))))
def F_hedgerowlaw18_fixed : IFun := ⟨75, [.slot 0], b_hedgerowlaw18_fixed, 8, 2, nofn⟩
theorem c_hedgerowlaw18_fixed : cFun Tryz.prog [2097159, 2097160] 2 f_hedgerowlaw18_fixed = some F_hedgerowlaw18_fixed := by kernel_rfl

def L0_lex_Tokens : ICode :=
 .block 1
 (.seq
 (.region [
 ⟨(some 11), none, .id, [.slot 0], none⟩,
 ⟨(some 12), none, .call f_strings_TrimLeft, [.slot 11, .val (.str ⟨#[32]⟩)], none⟩,
 ⟨(some 0), none, .id, [.slot 12], none⟩])
 (.seq
 (.seq
 (.region [
 ⟨(some 13), none, .id, [.slot 0], none⟩,
 ⟨(some 14), none, .bin .eql, [.slot 13, .val (.str ⟨#[]⟩)], none⟩])
 (.cond (.slot 14)
 (.seq
 (.region [
 ⟨(some 15), none, .id, [.slot 4], none⟩,
 ⟨(some 2), none, .id, [.slot 15], none⟩,
 ⟨(some 3), none, .id, [.val (.int .i64 0)], none⟩])
 (.ret))
 (.skip)))
 (.seq
 (.region [
 ⟨(some 17), none, .id, [.slot 0], none⟩,
 ⟨(some 18), none, .call f_lex_next, [.slot 17], none⟩,
 ⟨(some 16), none, .id, [.slot 18], none⟩,
 ⟨(some 19), none, .extract 0, [.slot 16], none⟩,
 ⟨(some 20), none, .extract 1, [.slot 16], none⟩,
 ⟨(some 21), none, .extract 2, [.slot 16], none⟩,
 ⟨(some 5), none, .allocL [(.int .i64 0), (.int .i64 0), (.str ⟨#[]⟩)], [], none⟩,
 ⟨none, none, .store 3, [.slot 5, .slot 19], none⟩,
 ⟨(some 6), none, .id, [.slot 20], none⟩,
 ⟨(some 7), none, .id, [.slot 21], none⟩])
 (.seq
 (.seq
 (.region [
 ⟨(some 22), none, .id, [.slot 7], none⟩,
 ⟨(some 23), none, .un .not, [.slot 22], none⟩])
 (.cond (.slot 23)
 (.seq
 (.region [
 ⟨(some 2), none, .id, [.val .nilsl], none⟩,
 ⟨(some 3), none, .id, [.val (.int .i64 10)], none⟩])
 (.ret))
 (.skip)))
 (.seq
 (.region [
 ⟨(some 24), none, .id, [.slot 4], none⟩,
 ⟨(some 25), none, .load 3 true, [.slot 5], none⟩,
 ⟨(some 26), none, .buildSl 3 1 (.agg [(.int .i64 0), (.int .i64 0), (.str ⟨#[]⟩)]) [0], [.slot 25], none⟩,
 ⟨(some 27), none, .append 30 3 32, [.slot 24, .slot 26], none⟩,
 ⟨(some 4), none, .id, [.slot 27], none⟩])
 (.region [
 ⟨(some 28), none, .id, [.slot 0], none⟩,
 ⟨(some 29), none, .id, [.slot 6], none⟩,
 ⟨(some 30), none, .slstr true false, [.slot 28, .slot 29], none⟩,
 ⟨(some 0), none, .id, [.slot 30], none⟩]))))))
def b_lex_Tokens : ICode :=
 .seq
 (.region [
 ⟨(some 2), none, .id, [.val .nilsl], none⟩,
 ⟨(some 3), none, .id, [.val (.int .i64 0)], none⟩])
 (.seq
 (.seq
 (.region [
 ⟨(some 8), none, .id, [.slot 0], none⟩,
 ⟨(some 9), none, .lenstr, [.slot 8], none⟩,
 ⟨(some 10), none, .bin .gtr, [.slot 9, .val (.int .i64 2000)], none⟩])
 (.cond (.slot 10)
 (.seq
 (.region [
 ⟨(some 2), none, .id, [.val .nilsl], none⟩,
 ⟨(some 3), none, .id, [.val (.int .i64 3)], none⟩])
 (.ret))
 (.skip)))
 (.seq
 (.region [
 ⟨(some 4), none, .id, [.val .nilsl], none⟩])
 (.block 0
 (.loop L0_lex_Tokens))))
def F_lex_Tokens : IFun := ⟨31, [.slot 2, .slot 3], b_lex_Tokens, 8, 1, nofn⟩
theorem c_lex_Tokens : cFun Tryz.prog [1048581] 1 f_lex_Tokens = some F_lex_Tokens := by kernel_rfl

def L0_lex_Text : ICode :=
 .seq
 (.region [
 ⟨(some 12), none, .bin .lss, [.slot 11, .slot 10], none⟩])
 (.seq
 (.cond (.slot 12)
 (.skip)
 (.exit 0))
 (.seq
 (.block 1
 (.seq
 (.region [
 ⟨(some 13), none, .ixaddr 3, [.slot 9, .slot 11], none⟩,
 ⟨(some 14), none, .load 3 true, [.slot 13], none⟩,
 ⟨(some 6), none, .allocL [(.int .i64 0), (.int .i64 0), (.str ⟨#[]⟩)], [], none⟩,
 ⟨none, none, .store 3, [.slot 6, .slot 14], none⟩])
 (.seq
 (.region [
 ⟨(some 16), none, .load 3 true, [.slot 6], none⟩,
 ⟨(some 17), none, .call f_lex_one, [.slot 16], none⟩,
 ⟨(some 15), none, .id, [.slot 17], none⟩,
 ⟨(some 18), none, .extract 0, [.slot 15], none⟩,
 ⟨(some 19), none, .extract 1, [.slot 15], none⟩,
 ⟨(some 7), none, .id, [.slot 18], none⟩,
 ⟨(some 8), none, .id, [.slot 19], none⟩])
 (.seq
 (.seq
 (.region [
 ⟨(some 20), none, .id, [.slot 8], none⟩,
 ⟨(some 21), none, .un .not, [.slot 20], none⟩])
 (.cond (.slot 21)
 (.seq
 (.region [
 ⟨(some 2), none, .id, [.val (.str ⟨#[]⟩)], none⟩,
 ⟨(some 3), none, .id, [.val (.bool false)], none⟩])
 (.ret))
 (.skip)))
 (.region [
 ⟨(some 22), none, .id, [.slot 4], none⟩,
 ⟨(some 23), none, .id, [.slot 7], none⟩,
 ⟨(some 24), none, .buildSl 1 1 (.str ⟨#[]⟩) [0], [.slot 23], none⟩,
 ⟨(some 25), none, .append 9 1 16, [.slot 22, .slot 24], none⟩,
 ⟨(some 4), none, .id, [.slot 25], none⟩])))))
 (.region [
 ⟨(some 26), none, .bin .add, [.slot 11, .val (.int .i64 1)], none⟩,
 ⟨(some 11), none, .id, [.slot 26], none⟩])))
def b_lex_Text : ICode :=
 .seq
 (.region [
 ⟨(some 2), none, .id, [.val (.str ⟨#[]⟩)], none⟩,
 ⟨(some 3), none, .id, [.val (.bool false)], none⟩])
 (.seq
 (.region [
 ⟨(some 4), none, .id, [.val .nilsl], none⟩])
 (.seq
 (.seq
 (.region [
 ⟨(some 9), none, .id, [.slot 0], none⟩,
 ⟨(some 10), none, .lensl, [.slot 9], none⟩,
 ⟨(some 11), none, .id, [.val (.int .i64 0)], none⟩])
 (.block 0
 (.loop L0_lex_Text)))
 (.seq
 (.region [
 ⟨(some 27), none, .id, [.slot 4], none⟩,
 ⟨(some 28), none, .call f_strings_Join, [.slot 27, .val (.str ⟨#[32]⟩)], none⟩,
 ⟨(some 2), none, .id, [.slot 28], none⟩,
 ⟨(some 3), none, .id, [.val (.bool true)], none⟩])
 (.ret))))
def F_lex_Text : IFun := ⟨29, [.slot 2, .slot 3], b_lex_Text, 8, 1, nofn⟩
theorem c_lex_Text : cFun Tryz.prog [1048582, 2097169] 1 f_lex_Text = some F_lex_Text := by kernel_rfl

def L0_hedgerowlaw18_same : ICode :=
 .seq
 (.region [
 ⟨(some 14), none, .bin .lss, [.slot 13, .slot 12], none⟩])
 (.seq
 (.cond (.slot 14)
 (.skip)
 (.exit 0))
 (.seq
 (.block 1
 (.seq
 (.region [
 ⟨(some 15), none, .id, [.slot 13], none⟩,
 ⟨(some 5), none, .id, [.slot 15], none⟩])
 (.seq
 (.region [
 ⟨(some 16), none, .id, [.slot 0], none⟩,
 ⟨(some 17), none, .id, [.slot 5], none⟩,
 ⟨(some 18), none, .ixaddr 3, [.slot 16, .slot 17], none⟩,
 ⟨(some 19), none, .load 3 true, [.slot 18], (some (.el))⟩,
 ⟨(some 20), none, .id, [.slot 1], none⟩,
 ⟨(some 21), none, .id, [.slot 5], none⟩,
 ⟨(some 22), none, .ixaddr 3, [.slot 20, .slot 21], none⟩,
 ⟨(some 23), none, .load 3 true, [.slot 22], (some (.el))⟩,
 ⟨(some 24), none, .eqv true [(.int .i64), (.int .i64), .str], [.slot 19, .slot 23], none⟩])
 (.cond (.slot 24)
 (.seq
 (.region [
 ⟨(some 4), none, .id, [.val (.bool false)], none⟩])
 (.ret))
 (.skip)))))
 (.region [
 ⟨(some 25), none, .bin .add, [.slot 13, .val (.int .i64 1)], none⟩,
 ⟨(some 13), none, .id, [.slot 25], none⟩])))
def b_hedgerowlaw18_same : ICode :=
 .seq
 (.region [
 ⟨(some 4), none, .id, [.val (.bool false)], none⟩])
 (.seq
 (.seq
 (.region [
 ⟨(some 6), none, .id, [.slot 0], none⟩,
 ⟨(some 7), none, .lensl, [.slot 6], none⟩,
 ⟨(some 8), none, .id, [.slot 1], none⟩,
 ⟨(some 9), none, .lensl, [.slot 8], none⟩,
 ⟨(some 10), none, .bin .neq, [.slot 7, .slot 9], none⟩])
 (.cond (.slot 10)
 (.seq
 (.region [
 ⟨(some 4), none, .id, [.val (.bool false)], none⟩])
 (.ret))
 (.skip)))
 (.seq
 (.seq
 (.region [
 ⟨(some 11), none, .id, [.slot 0], none⟩,
 ⟨(some 12), none, .lensl, [.slot 11], none⟩,
 ⟨(some 13), none, .id, [.val (.int .i64 0)], none⟩])
 (.block 0
 (.loop L0_hedgerowlaw18_same)))
 (.seq
 (.region [
 ⟨(some 4), none, .id, [.val (.bool true)], none⟩])
 (.ret))))
def F_hedgerowlaw18_same : IFun := ⟨26, [.slot 4], b_hedgerowlaw18_same, 8, 0, nofn⟩
theorem c_hedgerowlaw18_same : cFun Tryz.prog [] 0 f_hedgerowlaw18_same = some F_hedgerowlaw18_same := by kernel_rfl

def L0_hedgerowref18_Tokens : ICode :=
 .seq
 (.seq
 (.region [
 ⟨(some 12), none, .id, [.slot 0], none⟩,
 ⟨(some 13), none, .lenstr, [.slot 12], none⟩,
 ⟨(some 14), none, .bin .gtr, [.slot 13, .val (.int .i64 0)], none⟩])
 (.cond (.slot 14)
 (.skip)
 (.exit 0)))
 (.block 1
 (.seq
 (.seq
 (.region [
 ⟨(some 15), none, .id, [.slot 0], none⟩,
 ⟨(some 16), none, .ixstr, [.slot 15, .val (.int .i64 0)], none⟩,
 ⟨(some 17), none, .bin .eql, [.slot 16, .val (.int .u8 32)], none⟩])
 (.cond (.slot 17)
 (.seq
 (.region [
 ⟨(some 18), none, .id, [.slot 0], none⟩,
 ⟨(some 19), none, .slstr true false, [.slot 18, .val (.int .i64 1)], none⟩,
 ⟨(some 0), none, .id, [.slot 19], none⟩])
 (.exit 1))
 (.skip)))
 (.seq
 (.region [
 ⟨(some 20), none, .id, [.slot 0], none⟩,
 ⟨(some 21), none, .call f_hedgerowref18_size, [.slot 20], none⟩,
 ⟨(some 5), none, .id, [.slot 21], none⟩])
 (.seq
 (.seq
 (.region [
 ⟨(some 22), none, .id, [.slot 5], none⟩,
 ⟨(some 23), none, .bin .eql, [.slot 22, .val (.int .i64 0)], none⟩])
 (.cond (.slot 23)
 (.seq
 (.region [
 ⟨(some 2), none, .id, [.val .nilsl], none⟩,
 ⟨(some 3), none, .id, [.val (.int .i64 10)], none⟩])
 (.ret))
 (.skip)))
 (.seq
 (.region [
 ⟨(some 24), none, .id, [.slot 0], none⟩,
 ⟨(some 25), none, .id, [.slot 5], none⟩,
 ⟨(some 26), none, .slstr false true, [.slot 24, .slot 25], none⟩,
 ⟨(some 27), none, .call f_hedgerowref18_guess, [.slot 26], none⟩,
 ⟨(some 6), none, .allocL [(.int .i64 0), (.int .i64 0), (.str ⟨#[]⟩)], [], none⟩,
 ⟨none, none, .store 3, [.slot 6, .slot 27], none⟩])
 (.seq
 (.seq
 (.region [
 ⟨(some 29), none, .load 3 true, [.slot 6], none⟩,
 ⟨(some 30), none, .call f_hedgerowref18_One, [.slot 29], none⟩,
 ⟨(some 28), none, .id, [.slot 30], none⟩,
 ⟨(some 31), none, .extract 0, [.slot 28], none⟩,
 ⟨(some 32), none, .extract 1, [.slot 28], none⟩,
 ⟨(some 7), none, .id, [.slot 31], none⟩,
 ⟨(some 8), none, .id, [.slot 32], none⟩])
 (.seq
 (.region [
 ⟨(some 33), none, .id, [.slot 8], none⟩,
 ⟨(some 34), none, .un .not, [.slot 33], none⟩,
 ⟨(some 35), none, .id, [.slot 34], none⟩,
 ⟨(some 36), (some (35, false)), .id, [.slot 7], none⟩,
 ⟨(some 37), (some (35, false)), .id, [.slot 0], none⟩,
 ⟨(some 38), (some (35, false)), .id, [.slot 5], none⟩,
 ⟨(some 39), (some (35, false)), .slstr false true, [.slot 37, .slot 38], none⟩,
 ⟨(some 40), (some (35, false)), .bin .neq, [.slot 36, .slot 39], none⟩,
 ⟨(some 41), none, .pick, [.slot 35, .val (.bool true), .slot 40], none⟩])
 (.cond (.slot 41)
 (.seq
 (.region [
 ⟨(some 2), none, .id, [.val .nilsl], none⟩,
 ⟨(some 3), none, .id, [.val (.int .i64 10)], none⟩])
 (.ret))
 (.skip))))
 (.seq
 (.region [
 ⟨(some 42), none, .id, [.slot 4], none⟩,
 ⟨(some 43), none, .load 3 true, [.slot 6], none⟩,
 ⟨(some 44), none, .buildSl 3 1 (.agg [(.int .i64 0), (.int .i64 0), (.str ⟨#[]⟩)]) [0], [.slot 43], none⟩,
 ⟨(some 45), none, .append 30 3 32, [.slot 42, .slot 44], none⟩,
 ⟨(some 4), none, .id, [.slot 45], none⟩])
 (.region [
 ⟨(some 46), none, .id, [.slot 0], none⟩,
 ⟨(some 47), none, .id, [.slot 5], none⟩,
 ⟨(some 48), none, .slstr true false, [.slot 46, .slot 47], none⟩,
 ⟨(some 0), none, .id, [.slot 48], none⟩]))))))))
def b_hedgerowref18_Tokens : ICode :=
 .seq
 (.region [
 ⟨(some 2), none, .id, [.val .nilsl], none⟩,
 ⟨(some 3), none, .id, [.val (.int .i64 0)], none⟩])
 (.seq
 (.seq
 (.region [
 ⟨(some 9), none, .id, [.slot 0], none⟩,
 ⟨(some 10), none, .lenstr, [.slot 9], none⟩,
 ⟨(some 11), none, .bin .gtr, [.slot 10, .val (.int .i64 2000)], none⟩])
 (.cond (.slot 11)
 (.seq
 (.region [
 ⟨(some 2), none, .id, [.val .nilsl], none⟩,
 ⟨(some 3), none, .id, [.val (.int .i64 3)], none⟩])
 (.ret))
 (.skip)))
 (.seq
 (.region [
 ⟨(some 4), none, .id, [.val .nilsl], none⟩])
 (.seq
 (.block 0
 (.loop L0_hedgerowref18_Tokens))
 (.seq
 (.region [
 ⟨(some 49), none, .id, [.slot 4], none⟩,
 ⟨(some 2), none, .id, [.slot 49], none⟩,
 ⟨(some 3), none, .id, [.val (.int .i64 0)], none⟩])
 (.ret)))))
def F_hedgerowref18_Tokens : IFun := ⟨50, [.slot 2, .slot 3], b_hedgerowref18_Tokens, 8, 1, nofn⟩
theorem c_hedgerowref18_Tokens : cFun Tryz.prog [1048582] 1 f_hedgerowref18_Tokens = some F_hedgerowref18_Tokens := by kernel_rfl

def b_lex_Is : ICode :=
 .seq
 (.region [
 ⟨(some 2), none, .boxL, [.slot 0], none⟩,
 ⟨(some 4), none, .id, [.val (.bool false)], none⟩])
 (.seq
 (.region [
 ⟨(some 5), none, .faddr 0, [.slot 2], none⟩,
 ⟨(some 6), none, .load 1 false, [.slot 5], none⟩,
 ⟨(some 7), none, .bin .eql, [.slot 6, .val (.int .i64 2)], none⟩,
 ⟨(some 8), none, .id, [.slot 7], none⟩,
 ⟨(some 9), (some (8, false)), .faddr 0, [.slot 2], none⟩,
 ⟨(some 10), (some (8, false)), .load 1 false, [.slot 9], none⟩,
 ⟨(some 11), (some (8, false)), .bin .eql, [.slot 10, .val (.int .i64 5)], none⟩,
 ⟨(some 12), none, .pick, [.slot 8, .val (.bool true), .slot 11], none⟩,
 ⟨(some 13), none, .id, [.slot 12], none⟩,
 ⟨(some 14), (some (13, true)), .faddr 2, [.slot 2], none⟩,
 ⟨(some 15), (some (13, true)), .load 1 false, [.slot 14], none⟩,
 ⟨(some 16), (some (13, true)), .id, [.slot 1], none⟩,
 ⟨(some 17), (some (13, true)), .bin .eql, [.slot 15, .slot 16], none⟩,
 ⟨(some 18), none, .pick, [.slot 13, .slot 17, .val (.bool false)], none⟩,
 ⟨(some 4), none, .id, [.slot 18], none⟩])
 (.ret))
def F_lex_Is : IFun := ⟨19, [.slot 4], b_lex_Is, 8, 0, nofn⟩
theorem c_lex_Is : cFun Tryz.prog [1048578] 0 f_lex_Is = some F_lex_Is := by kernel_rfl

def b_lex_Words : ICode :=
 .seq
 (.region [
 ⟨(some 0), none, .id, [.val .nilsl], none⟩])
 (.seq
 (.region [
 ⟨(some 1), none, .buildSl 1 26 (.str ⟨#[]⟩) [0, 1, 2, 3, 4, 5, 6, 7, 8, 9, 10, 11, 12, 13, 14, 15, 16, 17, 18, 19, 20, 21, 22, 23, 24, 25], [.val (.str ⟨#[77, 65, 84, 67, 72]⟩), .val (.str ⟨#[79, 80, 84, 73, 79, 78, 65, 76]⟩), .val (.str ⟨#[87, 72, 69, 82, 69]⟩), .val (.str ⟨#[82, 69, 84, 85, 82, 78]⟩), .val (.str ⟨#[68, 73, 83, 84, 73, 78, 67, 84]⟩), .val (.str ⟨#[79, 82, 68, 69, 82]⟩), .val (.str ⟨#[66, 89]⟩), .val (.str ⟨#[68, 69, 83, 67]⟩), .val (.str ⟨#[83, 75, 73, 80]⟩), .val (.str ⟨#[76, 73, 77, 73, 84]⟩), .val (.str ⟨#[67, 82, 69, 65, 84, 69]⟩), .val (.str ⟨#[83, 69, 84]⟩), .val (.str ⟨#[82, 69, 77, 79, 86, 69]⟩), .val (.str ⟨#[68, 69, 76, 69, 84, 69]⟩), .val (.str ⟨#[65, 78, 68]⟩), .val (.str ⟨#[79, 82]⟩), .val (.str ⟨#[78, 79, 84]⟩), .val (.str ⟨#[73, 83]⟩), .val (.str ⟨#[78, 85, 76, 76]⟩), .val (.str ⟨#[84, 82, 85, 69]⟩), .val (.str ⟨#[70, 65, 76, 83, 69]⟩), .val (.str ⟨#[67, 79, 85, 78, 84]⟩), .val (.str ⟨#[83, 85, 77]⟩), .val (.str ⟨#[77, 73, 78]⟩), .val (.str ⟨#[77, 65, 88]⟩), .val (.str ⟨#[77, 65, 78, 89]⟩)], none⟩,
 ⟨(some 0), none, .id, [.slot 1], none⟩])
 (.ret))
def F_lex_Words : IFun := ⟨2, [.slot 0], b_lex_Words, 8, 0, nofn⟩
theorem c_lex_Words : cFun Tryz.prog [] 0 f_lex_Words = some F_lex_Words := by kernel_rfl

def b_lex_Signs : ICode :=
 .seq
 (.region [
 ⟨(some 0), none, .id, [.val .nilsl], none⟩])
 (.seq
 (.region [
 ⟨(some 1), none, .buildSl 1 20 (.str ⟨#[]⟩) [0, 1, 2, 3, 4, 5, 6, 7, 8, 9, 10, 11, 12, 13, 14, 15, 16, 17, 18, 19], [.val (.str ⟨#[40]⟩), .val (.str ⟨#[41]⟩), .val (.str ⟨#[91]⟩), .val (.str ⟨#[93]⟩), .val (.str ⟨#[58]⟩), .val (.str ⟨#[44]⟩), .val (.str ⟨#[46]⟩), .val (.str ⟨#[46, 46]⟩), .val (.str ⟨#[45]⟩), .val (.str ⟨#[45, 62]⟩), .val (.str ⟨#[60, 45]⟩), .val (.str ⟨#[61]⟩), .val (.str ⟨#[60, 62]⟩), .val (.str ⟨#[60]⟩), .val (.str ⟨#[60, 61]⟩), .val (.str ⟨#[62]⟩), .val (.str ⟨#[62, 61]⟩), .val (.str ⟨#[43]⟩), .val (.str ⟨#[42]⟩), .val (.str ⟨#[64]⟩)], none⟩,
 ⟨(some 0), none, .id, [.slot 1], none⟩])
 (.ret))
def F_lex_Signs : IFun := ⟨2, [.slot 0], b_lex_Signs, 8, 0, nofn⟩
theorem c_lex_Signs : cFun Tryz.prog [] 0 f_lex_Signs = some F_lex_Signs := by kernel_rfl

def b_strings_TrimLeft : ICode :=
 .seq
 (.region [
 ⟨(some 4), none, .id, [.val (.str ⟨#[]⟩)], none⟩])
 (.seq
 (.seq
 (.region [
 ⟨(some 7), none, .id, [.slot 0], none⟩,
 ⟨(some 8), none, .bin .eql, [.slot 7, .val (.str ⟨#[]⟩)], none⟩,
 ⟨(some 9), none, .id, [.slot 8], none⟩,
 ⟨(some 10), (some (9, false)), .id, [.slot 1], none⟩,
 ⟨(some 11), (some (9, false)), .bin .eql, [.slot 10, .val (.str ⟨#[]⟩)], none⟩,
 ⟨(some 12), none, .pick, [.slot 9, .val (.bool true), .slot 11], none⟩])
 (.cond (.slot 12)
 (.seq
 (.region [
 ⟨(some 13), none, .id, [.slot 0], none⟩,
 ⟨(some 4), none, .id, [.slot 13], none⟩])
 (.ret))
 (.skip)))
 (.seq
 (.seq
 (.region [
 ⟨(some 14), none, .id, [.slot 1], none⟩,
 ⟨(some 15), none, .lenstr, [.slot 14], none⟩,
 ⟨(some 16), none, .bin .eql, [.slot 15, .val (.int .i64 1)], none⟩,
 ⟨(some 17), none, .id, [.slot 16], none⟩,
 ⟨(some 18), (some (17, true)), .id, [.slot 1], none⟩,
 ⟨(some 19), (some (17, true)), .ixstr, [.slot 18, .val (.int .i64 0)], none⟩,
 ⟨(some 20), (some (17, true)), .bin .lss, [.slot 19, .val (.int .u8 128)], none⟩,
 ⟨(some 21), none, .pick, [.slot 17, .slot 20, .val (.bool false)], none⟩])
 (.cond (.slot 21)
 (.seq
 (.region [
 ⟨(some 22), none, .id, [.slot 0], none⟩,
 ⟨(some 23), none, .id, [.slot 1], none⟩,
 ⟨(some 24), none, .ixstr, [.slot 23, .val (.int .i64 0)], none⟩,
 ⟨(some 25), none, .call f_strings_trimLeftByte, [.slot 22, .slot 24], none⟩,
 ⟨(some 4), none, .id, [.slot 25], none⟩])
 (.ret))
 (.skip)))
 (.seq
 (.seq
 (.region [
 ⟨(some 27), none, .id, [.slot 1], none⟩,
 ⟨(some 28), none, .call f_strings_makeASCIISet, [.slot 27], none⟩,
 ⟨(some 26), none, .id, [.slot 28], none⟩,
 ⟨(some 29), none, .extract 0, [.slot 26], none⟩,
 ⟨(some 30), none, .extract 1, [.slot 26], none⟩,
 ⟨(some 5), none, .allocH 48 [(.bool false), (.bool false), (.bool false), (.bool false), (.bool false), (.bool false), (.bool false), (.bool false), (.bool false), (.bool false), (.bool false), (.bool false), (.bool false), (.bool false), (.bool false), (.bool false), (.bool false), (.bool false), (.bool false), (.bool false), (.bool false), (.bool false), (.bool false), (.bool false), (.bool false), (.bool false), (.bool false), (.bool false), (.bool false), (.bool false), (.bool false), (.bool false), (.bool false), (.bool false), (.bool false), (.bool false), (.bool false), (.bool false), (.bool false), (.bool false), (.bool false), (.bool false), (.bool false), (.bool false), (.bool false), (.bool false), (.bool false), (.bool false), (.bool false), (.bool false), (.bool false), (.bool false), (.bool false), (.bool false), (.bool false), (.bool false), (.bool false), (.bool false), (.bool false), (.bool false), (.bool false), (.bool false), (.bool false), (.bool false), (.bool false), (.bool false), (.bool false), (.bool false), (.bool false), (.bool false), (.bool false), (.bool false), (.bool false), (.bool false), (.bool false), (.bool false), (.bool false), (.bool false), (.bool false), (.bool false), (.bool false), (.bool false), (.bool false), (.bool false), (.bool false), (.bool false), (.bool false), (.bool false), (.bool false), (.bool false), (.bool false), (.bool false), (.bool false), (.bool false), (.bool false), (.bool false), (.bool false), (.bool false), (.bool false), (.bool false), (.bool false), (.bool false), (.bool false), (.bool false), (.bool false), (.bool false), (.bool false), (.bool false), (.bool false), (.bool false), (.bool false), (.bool false), (.bool false), (.bool false), (.bool false), (.bool false), (.bool false), (.bool false), (.bool false), (.bool false), (.bool false), (.bool false), (.bool false), (.bool false), (.bool false), (.bool false), (.bool false), (.bool false), (.bool false), (.bool false), (.bool false), (.bool false), (.bool false), (.bool false), (.bool false), (.bool false), (.bool false), (.bool false), (.bool false), (.bool false), (.bool false), (.bool false), (.bool false), (.bool false), (.bool false), (.bool false), (.bool false), (.bool false), (.bool false), (.bool false), (.bool false), (.bool false), (.bool false), (.bool false), (.bool false), (.bool false), (.bool false), (.bool false), (.bool false), (.bool false), (.bool false), (.bool false), (.bool false), (.bool false), (.bool false), (.bool false), (.bool false), (.bool false), (.bool false), (.bool false), (.bool false), (.bool false), (.bool false), (.bool false), (.bool false), (.bool false), (.bool false), (.bool false), (.bool false), (.bool false), (.bool false), (.bool false), (.bool false), (.bool false), (.bool false), (.bool false), (.bool false), (.bool false), (.bool false), (.bool false), (.bool false), (.bool false), (.bool false), (.bool false), (.bool false), (.bool false), (.bool false), (.bool false), (.bool false), (.bool false), (.bool false), (.bool false), (.bool false), (.bool false), (.bool false), (.bool false), (.bool false), (.bool false), (.bool false), (.bool false), (.bool false), (.bool false), (.bool false), (.bool false), (.bool false), (.bool false), (.bool false), (.bool false), (.bool false), (.bool false), (.bool false), (.bool false), (.bool false), (.bool false), (.bool false), (.bool false), (.bool false), (.bool false), (.bool false), (.bool false), (.bool false), (.bool false), (.bool false), (.bool false), (.bool false), (.bool false), (.bool false), (.bool false), (.bool false), (.bool false), (.bool false), (.bool false), (.bool false), (.bool false), (.bool false), (.bool false), (.bool false), (.bool false), (.bool false), (.bool false), (.bool false), (.bool false), (.bool false), (.bool false), (.bool false), (.bool false)], [], none⟩,
 ⟨none, none, .store 256, [.slot 5, .slot 29], none⟩,
 ⟨(some 6), none, .id, [.slot 30], none⟩])
 (.seq
 (.region [
 ⟨(some 31), none, .id, [.slot 6], none⟩])
 (.cond (.slot 31)
 (.seq
 (.region [
 ⟨(some 32), none, .id, [.slot 0], none⟩,
 ⟨(some 33), none, .call f_strings_trimLeftASCII, [.slot 32, .slot 5], none⟩,
 ⟨(some 4), none, .id, [.slot 33], none⟩])
 (.ret))
 (.skip))))
 (.seq
 (.region [
 ⟨(some 34), none, .id, [.slot 0], none⟩,
 ⟨(some 35), none, .id, [.slot 1], none⟩,
 ⟨(some 36), none, .call f_strings_trimLeftUnicode, [.slot 34, .slot 35], none⟩,
 ⟨(some 4), none, .id, [.slot 36], none⟩])
 (.ret)))))
def F_strings_TrimLeft : IFun := ⟨37, [.slot 4], b_strings_TrimLeft, 8, 0, nofn⟩
theorem c_strings_TrimLeft : cFun Tryz.prog [5] 0 f_strings_TrimLeft = some F_strings_TrimLeft := by kernel_rfl

def b_lex_next : ICode :=
 .seq
 (.region [
 ⟨(some 2), none, .allocL [(.int .i64 0), (.int .i64 0), (.str ⟨#[]⟩)], [], none⟩,
 ⟨(some 3), none, .id, [.val (.int .i64 0)], none⟩,
 ⟨(some 4), none, .id, [.val (.bool false)], none⟩])
 (.seq
 (.seq
 (.region [
 ⟨(some 6), none, .id, [.slot 0], none⟩,
 ⟨(some 7), none, .ixstr, [.slot 6, .val (.int .i64 0)], none⟩,
 ⟨(some 5), none, .id, [.slot 7], none⟩])
 (.block 0
 (.seq
 (.region [
 ⟨(some 9), none, .id, [.slot 5], none⟩,
 ⟨(some 10), none, .call f_lex_letter, [.slot 9], none⟩,
 ⟨(some 8), none, .id, [.slot 10], none⟩])
 (.cond (.slot 8)
 (.seq
 (.region [
 ⟨(some 11), none, .id, [.slot 0], none⟩,
 ⟨(some 12), none, .call f_lex_name, [.slot 11], none⟩,
 ⟨(some 13), none, .extract 0, [.slot 12], none⟩,
 ⟨(some 14), none, .extract 1, [.slot 12], none⟩,
 ⟨(some 15), none, .extract 2, [.slot 12], none⟩,
 ⟨none, none, .store 3, [.slot 2, .slot 13], none⟩,
 ⟨(some 3), none, .id, [.slot 14], none⟩,
 ⟨(some 4), none, .id, [.slot 15], none⟩])
 (.ret))
 (.seq
 (.region [
 ⟨(some 17), none, .id, [.slot 5], none⟩,
 ⟨(some 18), none, .call f_lex_digit, [.slot 17], none⟩,
 ⟨(some 16), none, .id, [.slot 18], none⟩])
 (.cond (.slot 16)
 (.seq
 (.region [
 ⟨(some 19), none, .id, [.slot 0], none⟩,
 ⟨(some 20), none, .call f_lex_number, [.slot 19], none⟩,
 ⟨(some 21), none, .extract 0, [.slot 20], none⟩,
 ⟨(some 22), none, .extract 1, [.slot 20], none⟩,
 ⟨(some 23), none, .extract 2, [.slot 20], none⟩,
 ⟨none, none, .store 3, [.slot 2, .slot 21], none⟩,
 ⟨(some 3), none, .id, [.slot 22], none⟩,
 ⟨(some 4), none, .id, [.slot 23], none⟩])
 (.ret))
 (.seq
 (.region [
 ⟨(some 25), none, .id, [.slot 5], none⟩,
 ⟨(some 26), none, .bin .eql, [.slot 25, .val (.int .u8 39)], none⟩,
 ⟨(some 24), none, .id, [.slot 26], none⟩])
 (.cond (.slot 24)
 (.seq
 (.region [
 ⟨(some 27), none, .id, [.slot 0], none⟩,
 ⟨(some 28), none, .call f_lex_text, [.slot 27], none⟩,
 ⟨(some 29), none, .extract 0, [.slot 28], none⟩,
 ⟨(some 30), none, .extract 1, [.slot 28], none⟩,
 ⟨(some 31), none, .extract 2, [.slot 28], none⟩,
 ⟨none, none, .store 3, [.slot 2, .slot 29], none⟩,
 ⟨(some 3), none, .id, [.slot 30], none⟩,
 ⟨(some 4), none, .id, [.slot 31], none⟩])
 (.ret))
 (.skip)))))))))
 (.seq
 (.region [
 ⟨(some 32), none, .id, [.slot 0], none⟩,
 ⟨(some 33), none, .call f_lex_sign, [.slot 32], none⟩,
 ⟨(some 34), none, .extract 0, [.slot 33], none⟩,
 ⟨(some 35), none, .extract 1, [.slot 33], none⟩,
 ⟨(some 36), none, .extract 2, [.slot 33], none⟩,
 ⟨none, none, .store 3, [.slot 2, .slot 34], none⟩,
 ⟨(some 3), none, .id, [.slot 35], none⟩,
 ⟨(some 4), none, .id, [.slot 36], none⟩])
 (.ret)))
def F_lex_next : IFun := ⟨37, [.cell 2 3 true, .slot 3, .slot 4], b_lex_next, 8, 0, nofn⟩
theorem c_lex_next : cFun Tryz.prog [1048578] 0 f_lex_next = some F_lex_next := by kernel_rfl

def b_lex_one : ICode :=
 .seq
 (.region [
 ⟨(some 1), none, .boxL, [.slot 0], none⟩,
 ⟨(some 2), none, .id, [.val (.str ⟨#[]⟩)], none⟩,
 ⟨(some 3), none, .id, [.val (.bool false)], none⟩])
 (.seq
 (.seq
 (.region [
 ⟨(some 5), none, .faddr 0, [.slot 1], none⟩,
 ⟨(some 6), none, .load 1 false, [.slot 5], none⟩])
 (.block 0
 (.seq
 (.region [
 ⟨(some 8), none, .bin .eql, [.slot 6, .val (.int .i64 1)], none⟩,
 ⟨(some 7), none, .id, [.slot 8], none⟩])
 (.cond (.slot 7)
 (.seq
 (.region [
 ⟨(some 9), none, .faddr 2, [.slot 1], none⟩,
 ⟨(some 10), none, .load 1 false, [.slot 9], (some (.loc 1))⟩,
 ⟨(some 11), none, .faddr 1, [.slot 1], none⟩,
 ⟨(some 12), none, .load 1 false, [.slot 11], (some (.loc 1))⟩,
 ⟨(some 13), none, .bin .eql, [.slot 12, .val (.int .i64 0)], none⟩,
 ⟨(some 14), none, .id, [.slot 13], none⟩,
 ⟨(some 15), (some (14, true)), .faddr 2, [.slot 1], none⟩,
 ⟨(some 16), (some (14, true)), .load 1 false, [.slot 15], (some (.loc 1))⟩,
 ⟨(some 17), (some (14, true)), .call f_value_Name, [.slot 16], none⟩,
 ⟨(some 18), none, .pick, [.slot 14, .slot 17, .val (.bool false)], none⟩,
 ⟨(some 19), none, .id, [.slot 18], none⟩,
 ⟨(some 20), (some (19, true)), .call f_lex_Words, [], none⟩,
 ⟨(some 21), (some (19, true)), .faddr 2, [.slot 1], none⟩,
 ⟨(some 22), (some (19, true)), .load 1 false, [.slot 21], (some (.loc 1))⟩,
 ⟨(some 23), (some (19, true)), .call f_slices_Containsstringstring, [.slot 20, .slot 22], none⟩,
 ⟨(some 24), (some (19, true)), .un .not, [.slot 23], none⟩,
 ⟨(some 25), none, .pick, [.slot 19, .slot 24, .val (.bool false)], none⟩,
 ⟨(some 2), none, .id, [.slot 10], none⟩,
 ⟨(some 3), none, .id, [.slot 25], none⟩])
 (.ret))
 (.seq
 (.region [
 ⟨(some 27), none, .bin .eql, [.slot 6, .val (.int .i64 2)], none⟩,
 ⟨(some 26), none, .id, [.slot 27], none⟩])
 (.cond (.slot 26)
 (.seq
 (.region [
 ⟨(some 28), none, .faddr 2, [.slot 1], none⟩,
 ⟨(some 29), none, .load 1 false, [.slot 28], (some (.loc 1))⟩,
 ⟨(some 30), none, .faddr 1, [.slot 1], none⟩,
 ⟨(some 31), none, .load 1 false, [.slot 30], (some (.loc 1))⟩,
 ⟨(some 32), none, .bin .eql, [.slot 31, .val (.int .i64 0)], none⟩,
 ⟨(some 33), none, .id, [.slot 32], none⟩,
 ⟨(some 34), (some (33, true)), .call f_lex_Words, [], none⟩,
 ⟨(some 35), (some (33, true)), .faddr 2, [.slot 1], none⟩,
 ⟨(some 36), (some (33, true)), .load 1 false, [.slot 35], (some (.loc 1))⟩,
 ⟨(some 37), (some (33, true)), .call f_slices_Containsstringstring, [.slot 34, .slot 36], none⟩,
 ⟨(some 38), none, .pick, [.slot 33, .slot 37, .val (.bool false)], none⟩,
 ⟨(some 2), none, .id, [.slot 29], none⟩,
 ⟨(some 3), none, .id, [.slot 38], none⟩])
 (.ret))
 (.seq
 (.region [
 ⟨(some 40), none, .bin .eql, [.slot 6, .val (.int .i64 3)], none⟩,
 ⟨(some 39), none, .id, [.slot 40], none⟩])
 (.cond (.slot 39)
 (.seq
 (.region [
 ⟨(some 41), none, .faddr 1, [.slot 1], none⟩,
 ⟨(some 42), none, .load 1 false, [.slot 41], (some (.loc 1))⟩,
 ⟨(some 43), none, .callP f_strconv_Itoa, [.slot 42], none⟩,
 ⟨(some 44), none, .faddr 2, [.slot 1], none⟩,
 ⟨(some 45), none, .load 1 false, [.slot 44], (some (.loc 1))⟩,
 ⟨(some 46), none, .bin .eql, [.slot 45, .val (.str ⟨#[]⟩)], none⟩,
 ⟨(some 47), none, .id, [.slot 46], none⟩,
 ⟨(some 48), (some (47, true)), .faddr 1, [.slot 1], none⟩,
 ⟨(some 49), (some (47, true)), .load 1 false, [.slot 48], (some (.loc 1))⟩,
 ⟨(some 50), (some (47, true)), .bin .geq, [.slot 49, .val (.int .i64 0)], none⟩,
 ⟨(some 51), none, .pick, [.slot 47, .slot 50, .val (.bool false)], none⟩,
 ⟨(some 52), none, .id, [.slot 51], none⟩,
 ⟨(some 53), (some (52, true)), .faddr 1, [.slot 1], none⟩,
 ⟨(some 54), (some (52, true)), .load 1 false, [.slot 53], (some (.loc 1))⟩,
 ⟨(some 55), (some (52, true)), .bin .leq, [.slot 54, .val (.int .i64 1099511627776)], none⟩,
 ⟨(some 56), none, .pick, [.slot 52, .slot 55, .val (.bool false)], none⟩,
 ⟨(some 2), none, .id, [.slot 43], none⟩,
 ⟨(some 3), none, .id, [.slot 56], none⟩])
 (.ret))
 (.seq
 (.region [
 ⟨(some 58), none, .bin .eql, [.slot 6, .val (.int .i64 4)], none⟩,
 ⟨(some 57), none, .id, [.slot 58], none⟩])
 (.cond (.slot 57)
 (.seq
 (.region [
 ⟨(some 59), none, .faddr 2, [.slot 1], none⟩,
 ⟨(some 60), none, .load 1 false, [.slot 59], none⟩,
 ⟨(some 61), none, .build [(.int .i64 0), (.int .i64 0), (.str ⟨#[]⟩)] [(0, 1), (2, 1)], [.val (.int .i64 3), .slot 60], none⟩,
 ⟨(some 4), none, .allocL [(.int .i64 0), (.int .i64 0), (.str ⟨#[]⟩)], [], none⟩,
 ⟨none, none, .store 3, [.slot 4, .slot 61], none⟩])
 (.seq
 (.region [
 ⟨(some 62), none, .load 3 true, [.slot 4], (some (.loc 4))⟩,
 ⟨(some 63), none, .call f_value_String, [.slot 62], none⟩,
 ⟨(some 64), none, .faddr 1, [.slot 1], none⟩,
 ⟨(some 65), none, .load 1 false, [.slot 64], (some (.loc 1))⟩,
 ⟨(some 66), none, .bin .eql, [.slot 65, .val (.int .i64 0)], none⟩,
 ⟨(some 67), none, .id, [.slot 66], none⟩,
 ⟨(some 68), (some (67, true)), .load 3 true, [.slot 4], (some (.loc 4))⟩,
 ⟨(some 69), (some (67, true)), .call f_value_Right, [.slot 68], none⟩,
 ⟨(some 70), none, .pick, [.slot 67, .slot 69, .val (.bool false)], none⟩,
 ⟨(some 2), none, .id, [.slot 63], none⟩,
 ⟨(some 3), none, .id, [.slot 70], none⟩])
 (.ret)))
 (.seq
 (.region [
 ⟨(some 72), none, .bin .eql, [.slot 6, .val (.int .i64 5)], none⟩,
 ⟨(some 71), none, .id, [.slot 72], none⟩])
 (.cond (.slot 71)
 (.seq
 (.region [
 ⟨(some 73), none, .faddr 2, [.slot 1], none⟩,
 ⟨(some 74), none, .load 1 false, [.slot 73], (some (.loc 1))⟩,
 ⟨(some 75), none, .faddr 1, [.slot 1], none⟩,
 ⟨(some 76), none, .load 1 false, [.slot 75], (some (.loc 1))⟩,
 ⟨(some 77), none, .bin .eql, [.slot 76, .val (.int .i64 0)], none⟩,
 ⟨(some 78), none, .id, [.slot 77], none⟩,
 ⟨(some 79), (some (78, true)), .call f_lex_Signs, [], none⟩,
 ⟨(some 80), (some (78, true)), .faddr 2, [.slot 1], none⟩,
 ⟨(some 81), (some (78, true)), .load 1 false, [.slot 80], (some (.loc 1))⟩,
 ⟨(some 82), (some (78, true)), .call f_slices_Containsstringstring, [.slot 79, .slot 81], none⟩,
 ⟨(some 83), none, .pick, [.slot 78, .slot 82, .val (.bool false)], none⟩,
 ⟨(some 2), none, .id, [.slot 74], none⟩,
 ⟨(some 3), none, .id, [.slot 83], none⟩])
 (.ret))
 (.skip)))))))))))))
 (.seq
 (.region [
 ⟨(some 2), none, .id, [.val (.str ⟨#[]⟩)], none⟩,
 ⟨(some 3), none, .id, [.val (.bool false)], none⟩])
 (.ret)))
def F_lex_one : IFun := ⟨84, [.slot 2, .slot 3], b_lex_one, 8, 0, nofn⟩
theorem c_lex_one : cFun Tryz.prog [1048577, 1048580, 2097185] 0 f_lex_one = some F_lex_one := by kernel_rfl

def F_strings_Join : IFun := ⟨8, [], .trap, 0, 10, nofn⟩

def b_hedgerowref18_size : ICode :=
 .seq
 (.region [
 ⟨(some 2), none, .id, [.val (.int .i64 0)], none⟩])
 (.seq
 (.region [
 ⟨(some 4), none, .id, [.slot 0], none⟩,
 ⟨(some 5), none, .ixstr, [.slot 4, .val (.int .i64 0)], none⟩,
 ⟨(some 3), none, .id, [.slot 5], none⟩])
 (.seq
 (.seq
 (.region [
 ⟨(some 6), none, .id, [.slot 3], none⟩,
 ⟨(some 7), none, .bin .geq, [.slot 6, .val (.int .u8 48)], none⟩,
 ⟨(some 8), none, .id, [.slot 7], none⟩,
 ⟨(some 9), (some (8, true)), .id, [.slot 3], none⟩,
 ⟨(some 10), (some (8, true)), .bin .leq, [.slot 9, .val (.int .u8 57)], none⟩,
 ⟨(some 11), none, .pick, [.slot 8, .slot 10, .val (.bool false)], none⟩])
 (.cond (.slot 11)
 (.seq
 (.region [
 ⟨(some 12), none, .id, [.slot 0], none⟩,
 ⟨(some 13), none, .call f_hedgerowref18_run, [.slot 12, .val (.int .i64 2)], none⟩,
 ⟨(some 2), none, .id, [.slot 13], none⟩])
 (.ret))
 (.skip)))
 (.seq
 (.seq
 (.region [
 ⟨(some 14), none, .id, [.slot 3], none⟩,
 ⟨(some 15), none, .bin .geq, [.slot 14, .val (.int .u8 97)], none⟩,
 ⟨(some 16), none, .id, [.slot 15], none⟩,
 ⟨(some 17), (some (16, true)), .id, [.slot 3], none⟩,
 ⟨(some 18), (some (16, true)), .bin .leq, [.slot 17, .val (.int .u8 122)], none⟩,
 ⟨(some 19), none, .pick, [.slot 16, .slot 18, .val (.bool false)], none⟩,
 ⟨(some 20), none, .id, [.slot 19], none⟩,
 ⟨(some 21), (some (20, false)), .id, [.slot 3], none⟩,
 ⟨(some 22), (some (20, false)), .bin .geq, [.slot 21, .val (.int .u8 65)], none⟩,
 ⟨(some 23), (some (20, false)), .id, [.slot 22], none⟩,
 ⟨(some 24), (some (23, true)), .id, [.slot 3], none⟩,
 ⟨(some 25), (some (23, true)), .bin .leq, [.slot 24, .val (.int .u8 90)], none⟩,
 ⟨(some 26), (some (20, false)), .pick, [.slot 23, .slot 25, .val (.bool false)], none⟩,
 ⟨(some 27), none, .pick, [.slot 20, .val (.bool true), .slot 26], none⟩])
 (.cond (.slot 27)
 (.seq
 (.region [
 ⟨(some 28), none, .id, [.slot 0], none⟩,
 ⟨(some 29), none, .call f_hedgerowref18_run, [.slot 28, .val (.int .i64 1)], none⟩,
 ⟨(some 2), none, .id, [.slot 29], none⟩])
 (.ret))
 (.skip)))
 (.seq
 (.seq
 (.region [
 ⟨(some 30), none, .id, [.slot 3], none⟩,
 ⟨(some 31), none, .bin .eql, [.slot 30, .val (.int .u8 39)], none⟩])
 (.cond (.slot 31)
 (.seq
 (.region [
 ⟨(some 32), none, .id, [.slot 0], none⟩,
 ⟨(some 33), none, .call f_hedgerowref18_text, [.slot 32], none⟩,
 ⟨(some 2), none, .id, [.slot 33], none⟩])
 (.ret))
 (.skip)))
 (.seq
 (.seq
 (.region [
 ⟨(some 34), none, .id, [.slot 0], none⟩,
 ⟨(some 35), none, .lenstr, [.slot 34], none⟩,
 ⟨(some 36), none, .bin .gtr, [.slot 35, .val (.int .i64 1)], none⟩,
 ⟨(some 37), none, .id, [.slot 36], none⟩,
 ⟨(some 38), (some (37, true)), .call f_hedgerowref18_Signs, [], none⟩,
 ⟨(some 39), (some (37, true)), .id, [.slot 0], none⟩,
 ⟨(some 40), (some (37, true)), .slstr false true, [.slot 39, .val (.int .i64 2)], none⟩,
 ⟨(some 41), (some (37, true)), .call f_hedgerowref18_in, [.slot 38, .slot 40], none⟩,
 ⟨(some 42), none, .pick, [.slot 37, .slot 41, .val (.bool false)], none⟩])
 (.cond (.slot 42)
 (.seq
 (.region [
 ⟨(some 2), none, .id, [.val (.int .i64 2)], none⟩])
 (.ret))
 (.skip)))
 (.seq
 (.seq
 (.region [
 ⟨(some 43), none, .call f_hedgerowref18_Signs, [], none⟩,
 ⟨(some 44), none, .id, [.slot 0], none⟩,
 ⟨(some 45), none, .slstr false true, [.slot 44, .val (.int .i64 1)], none⟩,
 ⟨(some 46), none, .call f_hedgerowref18_in, [.slot 43, .slot 45], none⟩])
 (.cond (.slot 46)
 (.seq
 (.region [
 ⟨(some 2), none, .id, [.val (.int .i64 1)], none⟩])
 (.ret))
 (.skip)))
 (.seq
 (.region [
 ⟨(some 2), none, .id, [.val (.int .i64 0)], none⟩])
 (.ret))))))))
def F_hedgerowref18_size : IFun := ⟨47, [.slot 2], b_hedgerowref18_size, 8, 0, nofn⟩
theorem c_hedgerowref18_size : cFun Tryz.prog [] 0 f_hedgerowref18_size = some F_hedgerowref18_size := by kernel_rfl

def L0_hedgerowref18_guess : ICode :=
 .seq
 (.seq
 (.region [
 ⟨(some 17), none, .id, [.slot 5], none⟩,
 ⟨(some 18), none, .id, [.slot 0], none⟩,
 ⟨(some 19), none, .lenstr, [.slot 18], none⟩,
 ⟨(some 20), none, .bin .lss, [.slot 17, .slot 19], none⟩,
 ⟨(some 21), none, .id, [.slot 20], none⟩,
 ⟨(some 22), (some (21, true)), .id, [.slot 5], none⟩,
 ⟨(some 23), (some (21, true)), .bin .lss, [.slot 22, .val (.int .i64 15)], none⟩,
 ⟨(some 24), none, .pick, [.slot 21, .slot 23, .val (.bool false)], none⟩])
 (.cond (.slot 24)
 (.skip)
 (.exit 1)))
 (.seq
 (.block 2
 (.region [
 ⟨(some 27), none, .id, [.slot 4], none⟩,
 ⟨(some 28), none, .bin .mul, [.slot 27, .val (.int .i64 10)], none⟩,
 ⟨(some 29), none, .id, [.slot 0], none⟩,
 ⟨(some 30), none, .id, [.slot 5], none⟩,
 ⟨(some 31), none, .ixstr, [.slot 29, .slot 30], none⟩,
 ⟨(some 32), none, .conv .i64, [.slot 31], none⟩,
 ⟨(some 33), none, .bin .add, [.slot 28, .slot 32], none⟩,
 ⟨(some 34), none, .bin .sub, [.slot 33, .val (.int .i64 48)], none⟩,
 ⟨(some 4), none, .id, [.slot 34], none⟩]))
 (.region [
 ⟨(some 25), none, .id, [.slot 5], none⟩,
 ⟨(some 26), none, .bin .add, [.slot 25, .val (.int .i64 1)], none⟩,
 ⟨(some 5), none, .id, [.slot 26], none⟩]))
def b_hedgerowref18_guess : ICode :=
 .seq
 (.region [
 ⟨(some 2), none, .allocL [(.int .i64 0), (.int .i64 0), (.str ⟨#[]⟩)], [], none⟩])
 (.seq
 (.region [
 ⟨(some 8), none, .id, [.slot 0], none⟩,
 ⟨(some 9), none, .ixstr, [.slot 8, .val (.int .i64 0)], none⟩,
 ⟨(some 3), none, .id, [.slot 9], none⟩])
 (.seq
 (.block 0
 (.seq
 (.region [
 ⟨(some 11), none, .id, [.slot 3], none⟩,
 ⟨(some 12), none, .bin .geq, [.slot 11, .val (.int .u8 48)], none⟩,
 ⟨(some 13), none, .id, [.slot 12], none⟩,
 ⟨(some 14), (some (13, true)), .id, [.slot 3], none⟩,
 ⟨(some 15), (some (13, true)), .bin .leq, [.slot 14, .val (.int .u8 57)], none⟩,
 ⟨(some 16), none, .pick, [.slot 13, .slot 15, .val (.bool false)], none⟩,
 ⟨(some 10), none, .id, [.slot 16], none⟩])
 (.cond (.slot 10)
 (.seq
 (.region [
 ⟨(some 4), none, .id, [.val (.int .i64 0)], none⟩])
 (.seq
 (.seq
 (.region [
 ⟨(some 5), none, .id, [.val (.int .i64 0)], none⟩])
 (.block 1
 (.loop L0_hedgerowref18_guess)))
 (.seq
 (.region [
 ⟨(some 35), none, .id, [.slot 4], none⟩,
 ⟨(some 36), none, .build [(.int .i64 0), (.int .i64 0), (.str ⟨#[]⟩)] [(0, 1), (1, 1)], [.val (.int .i64 3), .slot 35], none⟩,
 ⟨none, none, .store 3, [.slot 2, .slot 36], none⟩])
 (.ret))))
 (.seq
 (.region [
 ⟨(some 38), none, .id, [.slot 3], none⟩,
 ⟨(some 39), none, .bin .eql, [.slot 38, .val (.int .u8 39)], none⟩,
 ⟨(some 37), none, .id, [.slot 39], none⟩])
 (.cond (.slot 37)
 (.seq
 (.region [
 ⟨(some 41), none, .id, [.slot 0], none⟩,
 ⟨(some 42), none, .call f_hedgerowref01_Parse, [.slot 41], none⟩,
 ⟨(some 40), none, .id, [.slot 42], none⟩,
 ⟨(some 43), none, .extract 0, [.slot 40], none⟩,
 ⟨(some 44), none, .extract 1, [.slot 40], none⟩,
 ⟨(some 6), none, .allocL [(.int .i64 0), (.int .i64 0), (.str ⟨#[]⟩)], [], none⟩,
 ⟨none, none, .store 3, [.slot 6, .slot 43], none⟩,
 ⟨(some 7), none, .id, [.slot 44], none⟩])
 (.seq
 (.region [
 ⟨(some 45), none, .faddr 2, [.slot 6], none⟩,
 ⟨(some 46), none, .load 1 false, [.slot 45], none⟩,
 ⟨(some 47), none, .build [(.int .i64 0), (.int .i64 0), (.str ⟨#[]⟩)] [(0, 1), (2, 1)], [.val (.int .i64 4), .slot 46], none⟩,
 ⟨none, none, .store 3, [.slot 2, .slot 47], none⟩])
 (.ret)))
 (.seq
 (.region [
 ⟨(some 49), none, .call f_hedgerowref18_Words, [], none⟩,
 ⟨(some 50), none, .id, [.slot 0], none⟩,
 ⟨(some 51), none, .call f_hedgerowref18_in, [.slot 49, .slot 50], none⟩,
 ⟨(some 48), none, .id, [.slot 51], none⟩])
 (.cond (.slot 48)
 (.seq
 (.region [
 ⟨(some 52), none, .id, [.slot 0], none⟩,
 ⟨(some 53), none, .build [(.int .i64 0), (.int .i64 0), (.str ⟨#[]⟩)] [(0, 1), (2, 1)], [.val (.int .i64 2), .slot 52], none⟩,
 ⟨none, none, .store 3, [.slot 2, .slot 53], none⟩])
 (.ret))
 (.seq
 (.region [
 ⟨(some 55), none, .call f_hedgerowref18_Signs, [], none⟩,
 ⟨(some 56), none, .id, [.slot 0], none⟩,
 ⟨(some 57), none, .call f_hedgerowref18_in, [.slot 55, .slot 56], none⟩,
 ⟨(some 54), none, .id, [.slot 57], none⟩])
 (.cond (.slot 54)
 (.seq
 (.region [
 ⟨(some 58), none, .id, [.slot 0], none⟩,
 ⟨(some 59), none, .build [(.int .i64 0), (.int .i64 0), (.str ⟨#[]⟩)] [(0, 1), (2, 1)], [.val (.int .i64 5), .slot 58], none⟩,
 ⟨none, none, .store 3, [.slot 2, .slot 59], none⟩])
 (.ret))
 (.skip))))))))))
 (.seq
 (.region [
 ⟨(some 60), none, .id, [.slot 0], none⟩,
 ⟨(some 61), none, .build [(.int .i64 0), (.int .i64 0), (.str ⟨#[]⟩)] [(0, 1), (2, 1)], [.val (.int .i64 1), .slot 60], none⟩,
 ⟨none, none, .store 3, [.slot 2, .slot 61], none⟩])
 (.ret))))
def F_hedgerowref18_guess : IFun := ⟨62, [.cell 2 3 true], b_hedgerowref18_guess, 8, 0, nofn⟩
theorem c_hedgerowref18_guess : cFun Tryz.prog [1048578, 1048582] 0 f_hedgerowref18_guess = some F_hedgerowref18_guess := by kernel_rfl

def b_hedgerowref18_One : ICode :=
 .seq
 (.region [
 ⟨(some 1), none, .boxL, [.slot 0], none⟩,
 ⟨(some 2), none, .id, [.val (.str ⟨#[]⟩)], none⟩,
 ⟨(some 3), none, .id, [.val (.bool false)], none⟩])
 (.seq
 (.seq
 (.region [
 ⟨(some 5), none, .faddr 0, [.slot 1], none⟩,
 ⟨(some 6), none, .load 1 false, [.slot 5], none⟩])
 (.block 0
 (.seq
 (.region [
 ⟨(some 8), none, .bin .eql, [.slot 6, .val (.int .i64 1)], none⟩,
 ⟨(some 7), none, .id, [.slot 8], none⟩])
 (.cond (.slot 7)
 (.seq
 (.region [
 ⟨(some 9), none, .faddr 2, [.slot 1], none⟩,
 ⟨(some 10), none, .load 1 false, [.slot 9], (some (.loc 1))⟩,
 ⟨(some 11), none, .faddr 1, [.slot 1], none⟩,
 ⟨(some 12), none, .load 1 false, [.slot 11], (some (.loc 1))⟩,
 ⟨(some 13), none, .bin .eql, [.slot 12, .val (.int .i64 0)], none⟩,
 ⟨(some 14), none, .id, [.slot 13], none⟩,
 ⟨(some 15), (some (14, true)), .faddr 2, [.slot 1], none⟩,
 ⟨(some 16), (some (14, true)), .load 1 false, [.slot 15], (some (.loc 1))⟩,
 ⟨(some 17), (some (14, true)), .call f_hedgerowref01_Name, [.slot 16], none⟩,
 ⟨(some 18), none, .pick, [.slot 14, .slot 17, .val (.bool false)], none⟩,
 ⟨(some 19), none, .id, [.slot 18], none⟩,
 ⟨(some 20), (some (19, true)), .call f_hedgerowref18_Words, [], none⟩,
 ⟨(some 21), (some (19, true)), .faddr 2, [.slot 1], none⟩,
 ⟨(some 22), (some (19, true)), .load 1 false, [.slot 21], (some (.loc 1))⟩,
 ⟨(some 23), (some (19, true)), .call f_hedgerowref18_in, [.slot 20, .slot 22], none⟩,
 ⟨(some 24), (some (19, true)), .un .not, [.slot 23], none⟩,
 ⟨(some 25), none, .pick, [.slot 19, .slot 24, .val (.bool false)], none⟩,
 ⟨(some 2), none, .id, [.slot 10], none⟩,
 ⟨(some 3), none, .id, [.slot 25], none⟩])
 (.ret))
 (.seq
 (.region [
 ⟨(some 27), none, .bin .eql, [.slot 6, .val (.int .i64 2)], none⟩,
 ⟨(some 26), none, .id, [.slot 27], none⟩])
 (.cond (.slot 26)
 (.seq
 (.region [
 ⟨(some 28), none, .faddr 2, [.slot 1], none⟩,
 ⟨(some 29), none, .load 1 false, [.slot 28], (some (.loc 1))⟩,
 ⟨(some 30), none, .faddr 1, [.slot 1], none⟩,
 ⟨(some 31), none, .load 1 false, [.slot 30], (some (.loc 1))⟩,
 ⟨(some 32), none, .bin .eql, [.slot 31, .val (.int .i64 0)], none⟩,
 ⟨(some 33), none, .id, [.slot 32], none⟩,
 ⟨(some 34), (some (33, true)), .call f_hedgerowref18_Words, [], none⟩,
 ⟨(some 35), (some (33, true)), .faddr 2, [.slot 1], none⟩,
 ⟨(some 36), (some (33, true)), .load 1 false, [.slot 35], (some (.loc 1))⟩,
 ⟨(some 37), (some (33, true)), .call f_hedgerowref18_in, [.slot 34, .slot 36], none⟩,
 ⟨(some 38), none, .pick, [.slot 33, .slot 37, .val (.bool false)], none⟩,
 ⟨(some 2), none, .id, [.slot 29], none⟩,
 ⟨(some 3), none, .id, [.slot 38], none⟩])
 (.ret))
 (.seq
 (.region [
 ⟨(some 40), none, .bin .eql, [.slot 6, .val (.int .i64 3)], none⟩,
 ⟨(some 39), none, .id, [.slot 40], none⟩])
 (.cond (.slot 39)
 (.seq
 (.region [
 ⟨(some 41), none, .faddr 1, [.slot 1], none⟩,
 ⟨(some 42), none, .load 1 false, [.slot 41], (some (.loc 1))⟩,
 ⟨(some 43), none, .call f_hedgerowref01_Digits, [.slot 42], none⟩,
 ⟨(some 44), none, .faddr 2, [.slot 1], none⟩,
 ⟨(some 45), none, .load 1 false, [.slot 44], (some (.loc 1))⟩,
 ⟨(some 46), none, .bin .eql, [.slot 45, .val (.str ⟨#[]⟩)], none⟩,
 ⟨(some 47), none, .id, [.slot 46], none⟩,
 ⟨(some 48), (some (47, true)), .faddr 1, [.slot 1], none⟩,
 ⟨(some 49), (some (47, true)), .load 1 false, [.slot 48], (some (.loc 1))⟩,
 ⟨(some 50), (some (47, true)), .bin .geq, [.slot 49, .val (.int .i64 0)], none⟩,
 ⟨(some 51), none, .pick, [.slot 47, .slot 50, .val (.bool false)], none⟩,
 ⟨(some 52), none, .id, [.slot 51], none⟩,
 ⟨(some 53), (some (52, true)), .faddr 1, [.slot 1], none⟩,
 ⟨(some 54), (some (52, true)), .load 1 false, [.slot 53], (some (.loc 1))⟩,
 ⟨(some 55), (some (52, true)), .bin .leq, [.slot 54, .val (.int .i64 1099511627776)], none⟩,
 ⟨(some 56), none, .pick, [.slot 52, .slot 55, .val (.bool false)], none⟩,
 ⟨(some 2), none, .id, [.slot 43], none⟩,
 ⟨(some 3), none, .id, [.slot 56], none⟩])
 (.ret))
 (.seq
 (.region [
 ⟨(some 58), none, .bin .eql, [.slot 6, .val (.int .i64 4)], none⟩,
 ⟨(some 57), none, .id, [.slot 58], none⟩])
 (.cond (.slot 57)
 (.seq
 (.region [
 ⟨(some 59), none, .faddr 2, [.slot 1], none⟩,
 ⟨(some 60), none, .load 1 false, [.slot 59], none⟩,
 ⟨(some 61), none, .build [(.int .i64 0), (.int .i64 0), (.str ⟨#[]⟩)] [(0, 1), (2, 1)], [.val (.int .i64 3), .slot 60], none⟩,
 ⟨(some 4), none, .allocL [(.int .i64 0), (.int .i64 0), (.str ⟨#[]⟩)], [], none⟩,
 ⟨none, none, .store 3, [.slot 4, .slot 61], none⟩])
 (.seq
 (.region [
 ⟨(some 62), none, .load 3 true, [.slot 4], (some (.loc 4))⟩,
 ⟨(some 63), none, .call f_hedgerowref01_Text, [.slot 62], none⟩,
 ⟨(some 64), none, .faddr 1, [.slot 1], none⟩,
 ⟨(some 65), none, .load 1 false, [.slot 64], (some (.loc 1))⟩,
 ⟨(some 66), none, .bin .eql, [.slot 65, .val (.int .i64 0)], none⟩,
 ⟨(some 67), none, .id, [.slot 66], none⟩,
 ⟨(some 68), (some (67, true)), .load 3 true, [.slot 4], (some (.loc 4))⟩,
 ⟨(some 69), (some (67, true)), .call f_hedgerowref01_Right, [.slot 68], none⟩,
 ⟨(some 70), none, .pick, [.slot 67, .slot 69, .val (.bool false)], none⟩,
 ⟨(some 2), none, .id, [.slot 63], none⟩,
 ⟨(some 3), none, .id, [.slot 70], none⟩])
 (.ret)))
 (.seq
 (.region [
 ⟨(some 72), none, .bin .eql, [.slot 6, .val (.int .i64 5)], none⟩,
 ⟨(some 71), none, .id, [.slot 72], none⟩])
 (.cond (.slot 71)
 (.seq
 (.region [
 ⟨(some 73), none, .faddr 2, [.slot 1], none⟩,
 ⟨(some 74), none, .load 1 false, [.slot 73], (some (.loc 1))⟩,
 ⟨(some 75), none, .faddr 1, [.slot 1], none⟩,
 ⟨(some 76), none, .load 1 false, [.slot 75], (some (.loc 1))⟩,
 ⟨(some 77), none, .bin .eql, [.slot 76, .val (.int .i64 0)], none⟩,
 ⟨(some 78), none, .id, [.slot 77], none⟩,
 ⟨(some 79), (some (78, true)), .call f_hedgerowref18_Signs, [], none⟩,
 ⟨(some 80), (some (78, true)), .faddr 2, [.slot 1], none⟩,
 ⟨(some 81), (some (78, true)), .load 1 false, [.slot 80], (some (.loc 1))⟩,
 ⟨(some 82), (some (78, true)), .call f_hedgerowref18_in, [.slot 79, .slot 81], none⟩,
 ⟨(some 83), none, .pick, [.slot 78, .slot 82, .val (.bool false)], none⟩,
 ⟨(some 2), none, .id, [.slot 74], none⟩,
 ⟨(some 3), none, .id, [.slot 83], none⟩])
 (.ret))
 (.skip)))))))))))))
 (.seq
 (.region [
 ⟨(some 2), none, .id, [.val (.str ⟨#[]⟩)], none⟩,
 ⟨(some 3), none, .id, [.val (.bool false)], none⟩])
 (.ret)))
def F_hedgerowref18_One : IFun := ⟨84, [.slot 2, .slot 3], b_hedgerowref18_One, 8, 0, nofn⟩
theorem c_hedgerowref18_One : cFun Tryz.prog [1048577, 1048580] 0 f_hedgerowref18_One = some F_hedgerowref18_One := by kernel_rfl

def L0_strings_trimLeftByte : ICode :=
 .seq
 (.seq
 (.region [
 ⟨(some 5), none, .id, [.slot 0], none⟩,
 ⟨(some 6), none, .lenstr, [.slot 5], none⟩,
 ⟨(some 7), none, .bin .gtr, [.slot 6, .val (.int .i64 0)], none⟩,
 ⟨(some 8), none, .id, [.slot 7], none⟩,
 ⟨(some 9), (some (8, true)), .id, [.slot 0], none⟩,
 ⟨(some 10), (some (8, true)), .ixstr, [.slot 9, .val (.int .i64 0)], none⟩,
 ⟨(some 11), (some (8, true)), .id, [.slot 1], none⟩,
 ⟨(some 12), (some (8, true)), .bin .eql, [.slot 10, .slot 11], none⟩,
 ⟨(some 13), none, .pick, [.slot 8, .slot 12, .val (.bool false)], none⟩])
 (.cond (.slot 13)
 (.skip)
 (.exit 0)))
 (.block 1
 (.region [
 ⟨(some 14), none, .id, [.slot 0], none⟩,
 ⟨(some 15), none, .slstr true false, [.slot 14, .val (.int .i64 1)], none⟩,
 ⟨(some 0), none, .id, [.slot 15], none⟩]))
def b_strings_trimLeftByte : ICode :=
 .seq
 (.region [
 ⟨(some 4), none, .id, [.val (.str ⟨#[]⟩)], none⟩])
 (.seq
 (.block 0
 (.loop L0_strings_trimLeftByte))
 (.seq
 (.region [
 ⟨(some 16), none, .id, [.slot 0], none⟩,
 ⟨(some 4), none, .id, [.slot 16], none⟩])
 (.ret)))
def F_strings_trimLeftByte : IFun := ⟨17, [.slot 4], b_strings_trimLeftByte, 8, 0, nofn⟩
theorem c_strings_trimLeftByte : cFun Tryz.prog [] 0 f_strings_trimLeftByte = some F_strings_trimLeftByte := by kernel_rfl

def L0_strings_makeASCIISet : ICode :=
 .seq
 (.seq
 (.region [
 ⟨(some 6), none, .id, [.slot 4], none⟩,
 ⟨(some 7), none, .id, [.slot 0], none⟩,
 ⟨(some 8), none, .lenstr, [.slot 7], none⟩,
 ⟨(some 9), none, .bin .lss, [.slot 6, .slot 8], none⟩])
 (.cond (.slot 9)
 (.skip)
 (.exit 0)))
 (.seq
 (.block 1
 (.seq
 (.region [
 ⟨(some 12), none, .id, [.slot 0], none⟩,
 ⟨(some 13), none, .id, [.slot 4], none⟩,
 ⟨(some 14), none, .ixstr, [.slot 12, .slot 13], none⟩,
 ⟨(some 5), none, .id, [.slot 14], none⟩])
 (.seq
 (.seq
 (.region [
 ⟨(some 15), none, .id, [.slot 5], none⟩,
 ⟨(some 16), none, .bin .geq, [.slot 15, .val (.int .u8 128)], none⟩])
 (.cond (.slot 16)
 (.seq
 (.region [
 ⟨(some 17), none, .load 256 true, [.slot 2], none⟩,
 ⟨none, none, .store 256, [.slot 2, .slot 17], none⟩,
 ⟨(some 3), none, .id, [.val (.bool false)], none⟩])
 (.ret))
 (.skip)))
 (.region [
 ⟨(some 18), none, .id, [.slot 5], none⟩,
 ⟨(some 19), none, .ixaddrA 256 1, [.slot 2, .slot 18], none⟩,
 ⟨none, none, .store 1, [.slot 19, .val (.bool true)], none⟩]))))
 (.region [
 ⟨(some 10), none, .id, [.slot 4], none⟩,
 ⟨(some 11), none, .bin .add, [.slot 10, .val (.int .i64 1)], none⟩,
 ⟨(some 4), none, .id, [.slot 11], none⟩]))
def b_strings_makeASCIISet : ICode :=
 .seq
 (.region [
 ⟨(some 2), none, .allocL [(.bool false), (.bool false), (.bool false), (.bool false), (.bool false), (.bool false), (.bool false), (.bool false), (.bool false), (.bool false), (.bool false), (.bool false), (.bool false), (.bool false), (.bool false), (.bool false), (.bool false), (.bool false), (.bool false), (.bool false), (.bool false), (.bool false), (.bool false), (.bool false), (.bool false), (.bool false), (.bool false), (.bool false), (.bool false), (.bool false), (.bool false), (.bool false), (.bool false), (.bool false), (.bool false), (.bool false), (.bool false), (.bool false), (.bool false), (.bool false), (.bool false), (.bool false), (.bool false), (.bool false), (.bool false), (.bool false), (.bool false), (.bool false), (.bool false), (.bool false), (.bool false), (.bool false), (.bool false), (.bool false), (.bool false), (.bool false), (.bool false), (.bool false), (.bool false), (.bool false), (.bool false), (.bool false), (.bool false), (.bool false), (.bool false), (.bool false), (.bool false), (.bool false), (.bool false), (.bool false), (.bool false), (.bool false), (.bool false), (.bool false), (.bool false), (.bool false), (.bool false), (.bool false), (.bool false), (.bool false), (.bool false), (.bool false), (.bool false), (.bool false), (.bool false), (.bool false), (.bool false), (.bool false), (.bool false), (.bool false), (.bool false), (.bool false), (.bool false), (.bool false), (.bool false), (.bool false), (.bool false), (.bool false), (.bool false), (.bool false), (.bool false), (.bool false), (.bool false), (.bool false), (.bool false), (.bool false), (.bool false), (.bool false), (.bool false), (.bool false), (.bool false), (.bool false), (.bool false), (.bool false), (.bool false), (.bool false), (.bool false), (.bool false), (.bool false), (.bool false), (.bool false), (.bool false), (.bool false), (.bool false), (.bool false), (.bool false), (.bool false), (.bool false), (.bool false), (.bool false), (.bool false), (.bool false), (.bool false), (.bool false), (.bool false), (.bool false), (.bool false), (.bool false), (.bool false), (.bool false), (.bool false), (.bool false), (.bool false), (.bool false), (.bool false), (.bool false), (.bool false), (.bool false), (.bool false), (.bool false), (.bool false), (.bool false), (.bool false), (.bool false), (.bool false), (.bool false), (.bool false), (.bool false), (.bool false), (.bool false), (.bool false), (.bool false), (.bool false), (.bool false), (.bool false), (.bool false), (.bool false), (.bool false), (.bool false), (.bool false), (.bool false), (.bool false), (.bool false), (.bool false), (.bool false), (.bool false), (.bool false), (.bool false), (.bool false), (.bool false), (.bool false), (.bool false), (.bool false), (.bool false), (.bool false), (.bool false), (.bool false), (.bool false), (.bool false), (.bool false), (.bool false), (.bool false), (.bool false), (.bool false), (.bool false), (.bool false), (.bool false), (.bool false), (.bool false), (.bool false), (.bool false), (.bool false), (.bool false), (.bool false), (.bool false), (.bool false), (.bool false), (.bool false), (.bool false), (.bool false), (.bool false), (.bool false), (.bool false), (.bool false), (.bool false), (.bool false), (.bool false), (.bool false), (.bool false), (.bool false), (.bool false), (.bool false), (.bool false), (.bool false), (.bool false), (.bool false), (.bool false), (.bool false), (.bool false), (.bool false), (.bool false), (.bool false), (.bool false), (.bool false), (.bool false), (.bool false), (.bool false), (.bool false), (.bool false), (.bool false), (.bool false), (.bool false), (.bool false), (.bool false), (.bool false), (.bool false), (.bool false), (.bool false), (.bool false), (.bool false), (.bool false), (.bool false), (.bool false), (.bool false), (.bool false), (.bool false)], [], none⟩,
 ⟨(some 3), none, .id, [.val (.bool false)], none⟩])
 (.seq
 (.seq
 (.region [
 ⟨(some 4), none, .id, [.val (.int .i64 0)], none⟩])
 (.block 0
 (.loop L0_strings_makeASCIISet)))
 (.seq
 (.region [
 ⟨(some 20), none, .load 256 true, [.slot 2], none⟩,
 ⟨none, none, .store 256, [.slot 2, .slot 20], none⟩,
 ⟨(some 3), none, .id, [.val (.bool true)], none⟩])
 (.ret)))
def F_strings_makeASCIISet : IFun := ⟨21, [.cell 2 256 true, .slot 3], b_strings_makeASCIISet, 8, 0, nofn⟩
theorem c_strings_makeASCIISet : cFun Tryz.prog [1048578] 0 f_strings_makeASCIISet = some F_strings_makeASCIISet := by kernel_rfl

def L0_strings_trimLeftASCII : ICode :=
 .seq
 (.seq
 (.region [
 ⟨(some 5), none, .id, [.slot 0], none⟩,
 ⟨(some 6), none, .lenstr, [.slot 5], none⟩,
 ⟨(some 7), none, .bin .gtr, [.slot 6, .val (.int .i64 0)], none⟩])
 (.cond (.slot 7)
 (.skip)
 (.exit 0)))
 (.block 1
 (.seq
 (.seq
 (.region [
 ⟨(some 8), none, .id, [.slot 1], none⟩,
 ⟨(some 9), none, .id, [.slot 0], none⟩,
 ⟨(some 10), none, .ixstr, [.slot 9, .val (.int .i64 0)], none⟩,
 ⟨(some 11), none, .call f_strings_asciiSet_contains, [.slot 8, .slot 10], none⟩,
 ⟨(some 12), none, .un .not, [.slot 11], none⟩])
 (.cond (.slot 12)
 (.exit 0)
 (.skip)))
 (.region [
 ⟨(some 13), none, .id, [.slot 0], none⟩,
 ⟨(some 14), none, .slstr true false, [.slot 13, .val (.int .i64 1)], none⟩,
 ⟨(some 0), none, .id, [.slot 14], none⟩])))
def b_strings_trimLeftASCII : ICode :=
 .seq
 (.region [
 ⟨(some 4), none, .id, [.val (.str ⟨#[]⟩)], none⟩])
 (.seq
 (.block 0
 (.loop L0_strings_trimLeftASCII))
 (.seq
 (.region [
 ⟨(some 15), none, .id, [.slot 0], none⟩,
 ⟨(some 4), none, .id, [.slot 15], none⟩])
 (.ret)))
def F_strings_trimLeftASCII : IFun := ⟨16, [.slot 4], b_strings_trimLeftASCII, 8, 0, nofn⟩
theorem c_strings_trimLeftASCII : cFun Tryz.prog [] 0 f_strings_trimLeftASCII = some F_strings_trimLeftASCII := by kernel_rfl

def L0_strings_trimLeftUnicode : ICode :=
 .seq
 (.seq
 (.region [
 ⟨(some 7), none, .id, [.slot 0], none⟩,
 ⟨(some 8), none, .lenstr, [.slot 7], none⟩,
 ⟨(some 9), none, .bin .gtr, [.slot 8, .val (.int .i64 0)], none⟩])
 (.cond (.slot 9)
 (.skip)
 (.exit 0)))
 (.block 1
 (.seq
 (.region [
 ⟨(some 11), none, .id, [.slot 0], none⟩,
 ⟨(some 12), none, .call f_unicode_utf8_DecodeRuneInString, [.slot 11], none⟩,
 ⟨(some 10), none, .id, [.slot 12], none⟩,
 ⟨(some 13), none, .extract 0, [.slot 10], none⟩,
 ⟨(some 14), none, .extract 1, [.slot 10], none⟩,
 ⟨(some 5), none, .id, [.slot 13], none⟩,
 ⟨(some 6), none, .id, [.slot 14], none⟩])
 (.seq
 (.seq
 (.region [
 ⟨(some 15), none, .id, [.slot 1], none⟩,
 ⟨(some 16), none, .id, [.slot 5], none⟩,
 ⟨(some 17), none, .call f_strings_ContainsRune, [.slot 15, .slot 16], none⟩,
 ⟨(some 18), none, .un .not, [.slot 17], none⟩])
 (.cond (.slot 18)
 (.exit 0)
 (.skip)))
 (.region [
 ⟨(some 19), none, .id, [.slot 0], none⟩,
 ⟨(some 20), none, .id, [.slot 6], none⟩,
 ⟨(some 21), none, .slstr true false, [.slot 19, .slot 20], none⟩,
 ⟨(some 0), none, .id, [.slot 21], none⟩]))))
def b_strings_trimLeftUnicode : ICode :=
 .seq
 (.region [
 ⟨(some 4), none, .id, [.val (.str ⟨#[]⟩)], none⟩])
 (.seq
 (.block 0
 (.loop L0_strings_trimLeftUnicode))
 (.seq
 (.region [
 ⟨(some 22), none, .id, [.slot 0], none⟩,
 ⟨(some 4), none, .id, [.slot 22], none⟩])
 (.ret)))
def F_strings_trimLeftUnicode : IFun := ⟨23, [.slot 4], b_strings_trimLeftUnicode, 8, 0, nofn⟩
theorem c_strings_trimLeftUnicode : cFun Tryz.prog [] 0 f_strings_trimLeftUnicode = some F_strings_trimLeftUnicode := by kernel_rfl

def b_lex_letter : ICode :=
 .seq
 (.region [
 ⟨(some 2), none, .id, [.val (.bool false)], none⟩])
 (.seq
 (.region [
 ⟨(some 3), none, .id, [.slot 0], none⟩,
 ⟨(some 4), none, .bin .geq, [.slot 3, .val (.int .u8 97)], none⟩,
 ⟨(some 5), none, .id, [.slot 4], none⟩,
 ⟨(some 6), (some (5, true)), .id, [.slot 0], none⟩,
 ⟨(some 7), (some (5, true)), .bin .leq, [.slot 6, .val (.int .u8 122)], none⟩,
 ⟨(some 8), none, .pick, [.slot 5, .slot 7, .val (.bool false)], none⟩,
 ⟨(some 9), none, .id, [.slot 8], none⟩,
 ⟨(some 10), (some (9, false)), .id, [.slot 0], none⟩,
 ⟨(some 11), (some (9, false)), .bin .geq, [.slot 10, .val (.int .u8 65)], none⟩,
 ⟨(some 12), (some (9, false)), .id, [.slot 11], none⟩,
 ⟨(some 13), (some (12, true)), .id, [.slot 0], none⟩,
 ⟨(some 14), (some (12, true)), .bin .leq, [.slot 13, .val (.int .u8 90)], none⟩,
 ⟨(some 15), (some (9, false)), .pick, [.slot 12, .slot 14, .val (.bool false)], none⟩,
 ⟨(some 16), none, .pick, [.slot 9, .val (.bool true), .slot 15], none⟩,
 ⟨(some 2), none, .id, [.slot 16], none⟩])
 (.ret))
def F_lex_letter : IFun := ⟨17, [.slot 2], b_lex_letter, 8, 0, nofn⟩
theorem c_lex_letter : cFun Tryz.prog [] 0 f_lex_letter = some F_lex_letter := by kernel_rfl

def b_lex_name : ICode :=
 .seq
 (.region [
 ⟨(some 2), none, .allocL [(.int .i64 0), (.int .i64 0), (.str ⟨#[]⟩)], [], none⟩,
 ⟨(some 3), none, .id, [.val (.int .i64 0)], none⟩,
 ⟨(some 4), none, .id, [.val (.bool false)], none⟩])
 (.seq
 (.region [
 ⟨(some 7), none, .id, [.slot 0], none⟩,
 ⟨(some 8), none, .call f_lex_while, [.slot 7, .val (.func 53 [] [])], none⟩,
 ⟨(some 5), none, .id, [.slot 8], none⟩])
 (.seq
 (.region [
 ⟨(some 9), none, .id, [.slot 0], none⟩,
 ⟨(some 10), none, .id, [.slot 5], none⟩,
 ⟨(some 11), none, .slstr false true, [.slot 9, .slot 10], none⟩,
 ⟨(some 6), none, .id, [.slot 11], none⟩])
 (.seq
 (.seq
 (.region [
 ⟨(some 12), none, .call f_lex_Words, [], none⟩,
 ⟨(some 13), none, .id, [.slot 6], none⟩,
 ⟨(some 14), none, .call f_slices_Containsstringstring, [.slot 12, .slot 13], none⟩])
 (.cond (.slot 14)
 (.seq
 (.region [
 ⟨(some 15), none, .id, [.slot 6], none⟩,
 ⟨(some 16), none, .build [(.int .i64 0), (.int .i64 0), (.str ⟨#[]⟩)] [(0, 1), (2, 1)], [.val (.int .i64 2), .slot 15], none⟩,
 ⟨(some 17), none, .id, [.slot 5], none⟩,
 ⟨none, none, .store 3, [.slot 2, .slot 16], none⟩,
 ⟨(some 3), none, .id, [.slot 17], none⟩,
 ⟨(some 4), none, .id, [.val (.bool true)], none⟩])
 (.ret))
 (.skip)))
 (.seq
 (.region [
 ⟨(some 18), none, .id, [.slot 6], none⟩,
 ⟨(some 19), none, .build [(.int .i64 0), (.int .i64 0), (.str ⟨#[]⟩)] [(0, 1), (2, 1)], [.val (.int .i64 1), .slot 18], none⟩,
 ⟨(some 20), none, .id, [.slot 5], none⟩,
 ⟨(some 21), none, .id, [.slot 6], none⟩,
 ⟨(some 22), none, .call f_value_Name, [.slot 21], none⟩,
 ⟨none, none, .store 3, [.slot 2, .slot 19], none⟩,
 ⟨(some 3), none, .id, [.slot 20], none⟩,
 ⟨(some 4), none, .id, [.slot 22], none⟩])
 (.ret)))))
def F_lex_name : IFun := ⟨23, [.cell 2 3 true, .slot 3, .slot 4], b_lex_name, 8, 0, nofn⟩
theorem c_lex_name : cFun Tryz.prog [1048578] 0 f_lex_name = some F_lex_name := by kernel_rfl

def b_lex_digit : ICode :=
 .seq
 (.region [
 ⟨(some 2), none, .id, [.val (.bool false)], none⟩])
 (.seq
 (.region [
 ⟨(some 3), none, .id, [.slot 0], none⟩,
 ⟨(some 4), none, .bin .geq, [.slot 3, .val (.int .u8 48)], none⟩,
 ⟨(some 5), none, .id, [.slot 4], none⟩,
 ⟨(some 6), (some (5, true)), .id, [.slot 0], none⟩,
 ⟨(some 7), (some (5, true)), .bin .leq, [.slot 6, .val (.int .u8 57)], none⟩,
 ⟨(some 8), none, .pick, [.slot 5, .slot 7, .val (.bool false)], none⟩,
 ⟨(some 2), none, .id, [.slot 8], none⟩])
 (.ret))
def F_lex_digit : IFun := ⟨9, [.slot 2], b_lex_digit, 8, 0, nofn⟩
theorem c_lex_digit : cFun Tryz.prog [] 0 f_lex_digit = some F_lex_digit := by kernel_rfl

def b_lex_number : ICode :=
 .seq
 (.region [
 ⟨(some 2), none, .allocL [(.int .i64 0), (.int .i64 0), (.str ⟨#[]⟩)], [], none⟩,
 ⟨(some 3), none, .id, [.val (.int .i64 0)], none⟩,
 ⟨(some 4), none, .id, [.val (.bool false)], none⟩])
 (.seq
 (.region [
 ⟨(some 8), none, .id, [.slot 0], none⟩,
 ⟨(some 9), none, .call f_lex_while, [.slot 8, .val (.func 27 [] [])], none⟩,
 ⟨(some 5), none, .id, [.slot 9], none⟩])
 (.seq
 (.region [
 ⟨(some 11), none, .id, [.slot 0], none⟩,
 ⟨(some 12), none, .id, [.slot 5], none⟩,
 ⟨(some 13), none, .slstr false true, [.slot 11, .slot 12], none⟩,
 ⟨(some 14), none, .call f_strconv_Atoi, [.slot 13], none⟩,
 ⟨(some 10), none, .id, [.slot 14], none⟩,
 ⟨(some 15), none, .extract 0, [.slot 10], none⟩,
 ⟨(some 16), none, .extract 1, [.slot 10], none⟩,
 ⟨(some 6), none, .id, [.slot 15], none⟩,
 ⟨(some 7), none, .id, [.slot 16], none⟩])
 (.seq
 (.region [
 ⟨(some 17), none, .id, [.slot 6], none⟩,
 ⟨(some 18), none, .build [(.int .i64 0), (.int .i64 0), (.str ⟨#[]⟩)] [(0, 1), (1, 1)], [.val (.int .i64 3), .slot 17], none⟩,
 ⟨(some 19), none, .id, [.slot 5], none⟩,
 ⟨(some 20), none, .id, [.slot 7], none⟩,
 ⟨(some 21), none, .eq1 false .iface, [.slot 20, .val .niliface], none⟩,
 ⟨(some 22), none, .id, [.slot 21], none⟩,
 ⟨(some 23), (some (22, true)), .id, [.slot 6], none⟩,
 ⟨(some 24), (some (22, true)), .bin .leq, [.slot 23, .val (.int .i64 1099511627776)], none⟩,
 ⟨(some 25), none, .pick, [.slot 22, .slot 24, .val (.bool false)], none⟩,
 ⟨(some 26), none, .id, [.slot 25], none⟩,
 ⟨(some 27), (some (26, true)), .id, [.slot 5], none⟩,
 ⟨(some 28), (some (26, true)), .bin .eql, [.slot 27, .val (.int .i64 1)], none⟩,
 ⟨(some 29), (some (26, true)), .id, [.slot 28], none⟩,
 ⟨(some 30), (some (29, false)), .id, [.slot 0], none⟩,
 ⟨(some 31), (some (29, false)), .ixstr, [.slot 30, .val (.int .i64 0)], none⟩,
 ⟨(some 32), (some (29, false)), .bin .neq, [.slot 31, .val (.int .u8 48)], none⟩,
 ⟨(some 33), (some (26, true)), .pick, [.slot 29, .val (.bool true), .slot 32], none⟩,
 ⟨(some 34), none, .pick, [.slot 26, .slot 33, .val (.bool false)], none⟩,
 ⟨none, none, .store 3, [.slot 2, .slot 18], (some (.loc 2))⟩,
 ⟨(some 3), none, .id, [.slot 19], none⟩,
 ⟨(some 4), none, .id, [.slot 34], none⟩])
 (.ret))))
def F_lex_number : IFun := ⟨35, [.cell 2 3 true, .slot 3, .slot 4], b_lex_number, 8, 0, nofn⟩
theorem c_lex_number : cFun Tryz.prog [1048578, 2097206] 0 f_lex_number = some F_lex_number := by kernel_rfl

def L0_lex_text : ICode :=
 .seq
 (.seq
 (.region [
 ⟨(some 8), none, .id, [.slot 5], none⟩,
 ⟨(some 9), none, .id, [.slot 0], none⟩,
 ⟨(some 10), none, .lenstr, [.slot 9], none⟩,
 ⟨(some 11), none, .bin .lss, [.slot 8, .slot 10], none⟩])
 (.cond (.slot 11)
 (.skip)
 (.exit 0)))
 (.seq
 (.block 1
 (.seq
 (.region [
 ⟨(some 14), none, .id, [.slot 0], none⟩,
 ⟨(some 15), none, .id, [.slot 5], none⟩,
 ⟨(some 16), none, .ixstr, [.slot 14, .slot 15], none⟩])
 (.block 2
 (.seq
 (.region [
 ⟨(some 18), none, .bin .eql, [.slot 16, .val (.int .u8 92)], none⟩,
 ⟨(some 17), none, .id, [.slot 18], none⟩])
 (.cond (.slot 17)
 (.region [
 ⟨(some 19), none, .id, [.slot 5], none⟩,
 ⟨(some 20), none, .bin .add, [.slot 19, .val (.int .i64 1)], none⟩,
 ⟨(some 5), none, .id, [.slot 20], none⟩])
 (.seq
 (.region [
 ⟨(some 22), none, .bin .eql, [.slot 16, .val (.int .u8 39)], none⟩,
 ⟨(some 21), none, .id, [.slot 22], none⟩])
 (.cond (.slot 21)
 (.seq
 (.region [
 ⟨(some 24), none, .id, [.slot 0], none⟩,
 ⟨(some 25), none, .id, [.slot 5], none⟩,
 ⟨(some 26), none, .bin .add, [.slot 25, .val (.int .i64 1)], none⟩,
 ⟨(some 27), none, .slstr false true, [.slot 24, .slot 26], none⟩,
 ⟨(some 28), none, .call f_value_Parse, [.slot 27], none⟩,
 ⟨(some 23), none, .id, [.slot 28], none⟩,
 ⟨(some 29), none, .extract 0, [.slot 23], none⟩,
 ⟨(some 30), none, .extract 1, [.slot 23], none⟩,
 ⟨(some 6), none, .allocL [(.int .i64 0), (.int .i64 0), (.str ⟨#[]⟩)], [], none⟩,
 ⟨none, none, .store 3, [.slot 6, .slot 29], none⟩,
 ⟨(some 7), none, .id, [.slot 30], none⟩])
 (.seq
 (.region [
 ⟨(some 31), none, .faddr 2, [.slot 6], none⟩,
 ⟨(some 32), none, .load 1 false, [.slot 31], none⟩,
 ⟨(some 33), none, .build [(.int .i64 0), (.int .i64 0), (.str ⟨#[]⟩)] [(0, 1), (2, 1)], [.val (.int .i64 4), .slot 32], none⟩,
 ⟨(some 34), none, .id, [.slot 5], none⟩,
 ⟨(some 35), none, .bin .add, [.slot 34, .val (.int .i64 1)], none⟩,
 ⟨(some 36), none, .id, [.slot 7], none⟩,
 ⟨none, none, .store 3, [.slot 2, .slot 33], none⟩,
 ⟨(some 3), none, .id, [.slot 35], none⟩,
 ⟨(some 4), none, .id, [.slot 36], none⟩])
 (.ret)))
 (.skip))))))))
 (.region [
 ⟨(some 12), none, .id, [.slot 5], none⟩,
 ⟨(some 13), none, .bin .add, [.slot 12, .val (.int .i64 1)], none⟩,
 ⟨(some 5), none, .id, [.slot 13], none⟩]))
def b_lex_text : ICode :=
 .seq
 (.region [
 ⟨(some 2), none, .allocL [(.int .i64 0), (.int .i64 0), (.str ⟨#[]⟩)], [], none⟩,
 ⟨(some 3), none, .id, [.val (.int .i64 0)], none⟩,
 ⟨(some 4), none, .id, [.val (.bool false)], none⟩])
 (.seq
 (.seq
 (.region [
 ⟨(some 5), none, .id, [.val (.int .i64 1)], none⟩])
 (.block 0
 (.loop L0_lex_text)))
 (.seq
 (.region [
 ⟨(some 37), none, .build [(.int .i64 0), (.int .i64 0), (.str ⟨#[]⟩)] [], [], none⟩,
 ⟨none, none, .store 3, [.slot 2, .slot 37], none⟩,
 ⟨(some 3), none, .id, [.val (.int .i64 0)], none⟩,
 ⟨(some 4), none, .id, [.val (.bool false)], none⟩])
 (.ret)))
def F_lex_text : IFun := ⟨38, [.cell 2 3 true, .slot 3, .slot 4], b_lex_text, 8, 0, nofn⟩
theorem c_lex_text : cFun Tryz.prog [1048578, 1048582] 0 f_lex_text = some F_lex_text := by kernel_rfl

def L0_lex_sign : ICode :=
 .seq
 (.region [
 ⟨(some 11), none, .bin .lss, [.slot 10, .slot 9], none⟩])
 (.seq
 (.cond (.slot 11)
 (.skip)
 (.exit 0))
 (.seq
 (.block 1
 (.seq
 (.region [
 ⟨(some 12), none, .ixaddr 1, [.slot 8, .slot 10], none⟩,
 ⟨(some 13), none, .load 1 false, [.slot 12], none⟩,
 ⟨(some 7), none, .id, [.slot 13], none⟩])
 (.seq
 (.region [
 ⟨(some 14), none, .id, [.slot 0], none⟩,
 ⟨(some 15), none, .id, [.slot 7], none⟩,
 ⟨(some 16), none, .call f_strings_HasPrefix, [.slot 14, .slot 15], none⟩,
 ⟨(some 17), none, .id, [.slot 16], none⟩,
 ⟨(some 18), (some (17, true)), .id, [.slot 7], none⟩,
 ⟨(some 19), (some (17, true)), .lenstr, [.slot 18], none⟩,
 ⟨(some 20), (some (17, true)), .id, [.slot 5], none⟩,
 ⟨(some 21), (some (17, true)), .lenstr, [.slot 20], none⟩,
 ⟨(some 22), (some (17, true)), .bin .gtr, [.slot 19, .slot 21], none⟩,
 ⟨(some 23), none, .pick, [.slot 17, .slot 22, .val (.bool false)], none⟩])
 (.cond (.slot 23)
 (.region [
 ⟨(some 24), none, .id, [.slot 7], none⟩,
 ⟨(some 5), none, .id, [.slot 24], none⟩])
 (.skip)))))
 (.region [
 ⟨(some 25), none, .bin .add, [.slot 10, .val (.int .i64 1)], none⟩,
 ⟨(some 10), none, .id, [.slot 25], none⟩])))
def b_lex_sign : ICode :=
 .seq
 (.region [
 ⟨(some 2), none, .allocL [(.int .i64 0), (.int .i64 0), (.str ⟨#[]⟩)], [], none⟩,
 ⟨(some 3), none, .id, [.val (.int .i64 0)], none⟩,
 ⟨(some 4), none, .id, [.val (.bool false)], none⟩])
 (.seq
 (.region [
 ⟨(some 5), none, .id, [.val (.str ⟨#[]⟩)], none⟩])
 (.seq
 (.seq
 (.region [
 ⟨(some 8), none, .call f_lex_Signs, [], none⟩,
 ⟨(some 9), none, .lensl, [.slot 8], none⟩,
 ⟨(some 10), none, .id, [.val (.int .i64 0)], none⟩])
 (.block 0
 (.loop L0_lex_sign)))
 (.seq
 (.region [
 ⟨(some 26), none, .id, [.slot 5], none⟩,
 ⟨(some 27), none, .build [(.int .i64 0), (.int .i64 0), (.str ⟨#[]⟩)] [(0, 1), (2, 1)], [.val (.int .i64 5), .slot 26], none⟩,
 ⟨(some 28), none, .id, [.slot 5], none⟩,
 ⟨(some 29), none, .lenstr, [.slot 28], none⟩,
 ⟨(some 30), none, .id, [.slot 5], none⟩,
 ⟨(some 31), none, .bin .neq, [.slot 30, .val (.str ⟨#[]⟩)], none⟩,
 ⟨none, none, .store 3, [.slot 2, .slot 27], none⟩,
 ⟨(some 3), none, .id, [.slot 29], none⟩,
 ⟨(some 4), none, .id, [.slot 31], none⟩])
 (.ret))))
def F_lex_sign : IFun := ⟨32, [.cell 2 3 true, .slot 3, .slot 4], b_lex_sign, 8, 0, nofn⟩
theorem c_lex_sign : cFun Tryz.prog [1048578] 0 f_lex_sign = some F_lex_sign := by kernel_rfl

def L0_value_Name : ICode :=
 .seq
 (.region [
 ⟨(some 20), none, .bin .lss, [.slot 19, .slot 18], none⟩])
 (.seq
 (.cond (.slot 20)
 (.skip)
 (.exit 0))
 (.seq
 (.block 1
 (.seq
 (.region [
 ⟨(some 21), none, .id, [.slot 19], none⟩,
 ⟨(some 3), none, .id, [.slot 21], none⟩])
 (.seq
 (.region [
 ⟨(some 22), none, .id, [.slot 0], none⟩,
 ⟨(some 23), none, .id, [.slot 3], none⟩,
 ⟨(some 24), none, .ixstr, [.slot 22, .slot 23], none⟩,
 ⟨(some 25), none, .call f_value_inner, [.slot 24], none⟩,
 ⟨(some 26), none, .un .not, [.slot 25], none⟩])
 (.cond (.slot 26)
 (.seq
 (.region [
 ⟨(some 2), none, .id, [.val (.bool false)], none⟩])
 (.ret))
 (.skip)))))
 (.region [
 ⟨(some 27), none, .bin .add, [.slot 19, .val (.int .i64 1)], none⟩,
 ⟨(some 19), none, .id, [.slot 27], none⟩])))
def b_value_Name : ICode :=
 .seq
 (.region [
 ⟨(some 2), none, .id, [.val (.bool false)], none⟩])
 (.seq
 (.seq
 (.region [
 ⟨(some 4), none, .id, [.slot 0], none⟩,
 ⟨(some 5), none, .bin .eql, [.slot 4, .val (.str ⟨#[]⟩)], none⟩,
 ⟨(some 6), none, .id, [.slot 5], none⟩,
 ⟨(some 7), (some (6, false)), .id, [.slot 0], none⟩,
 ⟨(some 8), (some (6, false)), .lenstr, [.slot 7], none⟩,
 ⟨(some 9), (some (6, false)), .bin .gtr, [.slot 8, .val (.int .i64 16)], none⟩,
 ⟨(some 10), none, .pick, [.slot 6, .val (.bool true), .slot 9], none⟩,
 ⟨(some 11), none, .id, [.slot 10], none⟩,
 ⟨(some 12), (some (11, false)), .id, [.slot 0], none⟩,
 ⟨(some 13), (some (11, false)), .ixstr, [.slot 12, .val (.int .i64 0)], none⟩,
 ⟨(some 14), (some (11, false)), .call f_value_letter, [.slot 13], none⟩,
 ⟨(some 15), (some (11, false)), .un .not, [.slot 14], none⟩,
 ⟨(some 16), none, .pick, [.slot 11, .val (.bool true), .slot 15], none⟩])
 (.cond (.slot 16)
 (.seq
 (.region [
 ⟨(some 2), none, .id, [.val (.bool false)], none⟩])
 (.ret))
 (.skip)))
 (.seq
 (.seq
 (.region [
 ⟨(some 17), none, .id, [.slot 0], none⟩,
 ⟨(some 18), none, .lenstr, [.slot 17], none⟩,
 ⟨(some 19), none, .id, [.val (.int .i64 0)], none⟩])
 (.block 0
 (.loop L0_value_Name)))
 (.seq
 (.region [
 ⟨(some 2), none, .id, [.val (.bool true)], none⟩])
 (.ret))))
def F_value_Name : IFun := ⟨28, [.slot 2], b_value_Name, 8, 0, nofn⟩
theorem c_value_Name : cFun Tryz.prog [] 0 f_value_Name = some F_value_Name := by kernel_rfl

def b_slices_Containsstringstring : ICode :=
 .seq
 (.region [
 ⟨(some 4), none, .id, [.val (.bool false)], none⟩])
 (.seq
 (.region [
 ⟨(some 5), none, .id, [.slot 0], none⟩,
 ⟨(some 6), none, .id, [.slot 1], none⟩,
 ⟨(some 7), none, .call f_slices_Indexstringstring, [.slot 5, .slot 6], none⟩,
 ⟨(some 8), none, .bin .geq, [.slot 7, .val (.int .i64 0)], none⟩,
 ⟨(some 4), none, .id, [.slot 8], none⟩])
 (.ret))
def F_slices_Containsstringstring : IFun := ⟨9, [.slot 4], b_slices_Containsstringstring, 8, 0, nofn⟩
theorem c_slices_Containsstringstring : cFun Tryz.prog [] 0 f_slices_Containsstringstring = some F_slices_Containsstringstring := by kernel_rfl

def F_strconv_Itoa : IFun := ⟨8, [], .trap, 0, 12, nofn⟩

def b_value_String : ICode :=
 .seq
 (.region [
 ⟨(some 1), none, .boxL, [.slot 0], none⟩,
 ⟨(some 2), none, .id, [.val (.str ⟨#[]⟩)], none⟩])
 (.seq
 (.seq
 (.region [
 ⟨(some 3), none, .load 3 true, [.slot 1], none⟩,
 ⟨(some 4), none, .call f_value_Right, [.slot 3], none⟩,
 ⟨(some 5), none, .un .not, [.slot 4], none⟩])
 (.cond (.slot 5)
 (.seq
 (.region [
 ⟨(some 2), none, .id, [.val (.str ⟨#[]⟩)], none⟩])
 (.ret))
 (.skip)))
 (.seq
 (.seq
 (.region [
 ⟨(some 6), none, .faddr 0, [.slot 1], none⟩,
 ⟨(some 7), none, .load 1 false, [.slot 6], none⟩])
 (.block 0
 (.seq
 (.region [
 ⟨(some 9), none, .bin .eql, [.slot 7, .val (.int .i64 0)], none⟩,
 ⟨(some 8), none, .id, [.slot 9], none⟩])
 (.cond (.slot 8)
 (.seq
 (.region [
 ⟨(some 2), none, .id, [.val (.str ⟨#[110, 117, 108, 108]⟩)], none⟩])
 (.ret))
 (.seq
 (.region [
 ⟨(some 11), none, .bin .eql, [.slot 7, .val (.int .i64 1)], none⟩,
 ⟨(some 10), none, .id, [.slot 11], none⟩])
 (.cond (.slot 10)
 (.seq
 (.region [
 ⟨(some 12), none, .faddr 1, [.slot 1], none⟩,
 ⟨(some 13), none, .load 1 false, [.slot 12], none⟩,
 ⟨(some 14), none, .bin .eql, [.slot 13, .val (.int .i64 1)], none⟩,
 ⟨(some 15), none, .call f_strconv_FormatBool, [.slot 14], none⟩,
 ⟨(some 2), none, .id, [.slot 15], none⟩])
 (.ret))
 (.seq
 (.region [
 ⟨(some 17), none, .bin .eql, [.slot 7, .val (.int .i64 2)], none⟩,
 ⟨(some 16), none, .id, [.slot 17], none⟩])
 (.cond (.slot 16)
 (.seq
 (.region [
 ⟨(some 18), none, .faddr 1, [.slot 1], none⟩,
 ⟨(some 19), none, .load 1 false, [.slot 18], none⟩,
 ⟨(some 20), none, .call f_strconv_Itoa, [.slot 19], none⟩,
 ⟨(some 2), none, .id, [.slot 20], none⟩])
 (.ret))
 (.seq
 (.region [
 ⟨(some 22), none, .bin .eql, [.slot 7, .val (.int .i64 3)], none⟩,
 ⟨(some 21), none, .id, [.slot 22], none⟩])
 (.cond (.slot 21)
 (.seq
 (.region [
 ⟨(some 23), none, .faddr 2, [.slot 1], none⟩,
 ⟨(some 24), none, .load 1 false, [.slot 23], none⟩,
 ⟨(some 25), none, .call f_value_quoted, [.slot 24], none⟩,
 ⟨(some 2), none, .id, [.slot 25], none⟩])
 (.ret))
 (.seq
 (.region [
 ⟨(some 27), none, .bin .eql, [.slot 7, .val (.int .i64 4)], none⟩,
 ⟨(some 26), none, .id, [.slot 27], none⟩])
 (.cond (.slot 26)
 (.seq
 (.region [
 ⟨(some 28), none, .faddr 2, [.slot 1], none⟩,
 ⟨(some 29), none, .load 1 false, [.slot 28], none⟩,
 ⟨(some 30), none, .bin .add, [.val (.str ⟨#[40]⟩), .slot 29], none⟩,
 ⟨(some 31), none, .bin .add, [.slot 30, .val (.str ⟨#[41]⟩)], none⟩,
 ⟨(some 2), none, .id, [.slot 31], none⟩])
 (.ret))
 (.skip)))))))))))))
 (.seq
 (.region [
 ⟨(some 32), none, .faddr 2, [.slot 1], none⟩,
 ⟨(some 33), none, .load 1 false, [.slot 32], none⟩,
 ⟨(some 34), none, .bin .add, [.val (.str ⟨#[91]⟩), .slot 33], none⟩,
 ⟨(some 35), none, .bin .add, [.slot 34, .val (.str ⟨#[93]⟩)], none⟩,
 ⟨(some 2), none, .id, [.slot 35], none⟩])
 (.ret))))
def F_value_String : IFun := ⟨36, [.slot 2], b_value_String, 8, 0, nofn⟩
theorem c_value_String : cFun Tryz.prog [1048577, 2097185, 2097214] 0 f_value_String = some F_value_String := by kernel_rfl

def b_value_Right : ICode :=
 .seq
 (.region [
 ⟨(some 1), none, .boxL, [.slot 0], none⟩,
 ⟨(some 2), none, .id, [.val (.bool false)], none⟩])
 (.seq
 (.seq
 (.region [
 ⟨(some 5), none, .faddr 0, [.slot 1], none⟩,
 ⟨(some 6), none, .load 1 false, [.slot 5], none⟩])
 (.block 0
 (.seq
 (.region [
 ⟨(some 8), none, .bin .eql, [.slot 6, .val (.int .i64 0)], none⟩,
 ⟨(some 7), none, .id, [.slot 8], none⟩])
 (.cond (.slot 7)
 (.seq
 (.region [
 ⟨(some 9), none, .faddr 1, [.slot 1], none⟩,
 ⟨(some 10), none, .load 1 false, [.slot 9], none⟩,
 ⟨(some 11), none, .bin .eql, [.slot 10, .val (.int .i64 0)], none⟩,
 ⟨(some 12), none, .id, [.slot 11], none⟩,
 ⟨(some 13), (some (12, true)), .faddr 2, [.slot 1], none⟩,
 ⟨(some 14), (some (12, true)), .load 1 false, [.slot 13], none⟩,
 ⟨(some 15), (some (12, true)), .bin .eql, [.slot 14, .val (.str ⟨#[]⟩)], none⟩,
 ⟨(some 16), none, .pick, [.slot 12, .slot 15, .val (.bool false)], none⟩,
 ⟨(some 2), none, .id, [.slot 16], none⟩])
 (.ret))
 (.seq
 (.region [
 ⟨(some 18), none, .bin .eql, [.slot 6, .val (.int .i64 1)], none⟩,
 ⟨(some 17), none, .id, [.slot 18], none⟩])
 (.cond (.slot 17)
 (.seq
 (.region [
 ⟨(some 19), none, .faddr 1, [.slot 1], none⟩,
 ⟨(some 20), none, .load 1 false, [.slot 19], none⟩,
 ⟨(some 21), none, .bin .andNot, [.slot 20, .val (.int .i64 1)], none⟩,
 ⟨(some 22), none, .bin .eql, [.slot 21, .val (.int .i64 0)], none⟩,
 ⟨(some 23), none, .id, [.slot 22], none⟩,
 ⟨(some 24), (some (23, true)), .faddr 2, [.slot 1], none⟩,
 ⟨(some 25), (some (23, true)), .load 1 false, [.slot 24], none⟩,
 ⟨(some 26), (some (23, true)), .bin .eql, [.slot 25, .val (.str ⟨#[]⟩)], none⟩,
 ⟨(some 27), none, .pick, [.slot 23, .slot 26, .val (.bool false)], none⟩,
 ⟨(some 2), none, .id, [.slot 27], none⟩])
 (.ret))
 (.seq
 (.region [
 ⟨(some 29), none, .bin .eql, [.slot 6, .val (.int .i64 2)], none⟩,
 ⟨(some 28), none, .id, [.slot 29], none⟩])
 (.cond (.slot 28)
 (.seq
 (.region [
 ⟨(some 30), none, .faddr 1, [.slot 1], none⟩,
 ⟨(some 31), none, .load 1 false, [.slot 30], none⟩,
 ⟨(some 32), none, .bin .geq, [.slot 31, .val (.int .i64 (-1099511627776))], none⟩,
 ⟨(some 33), none, .id, [.slot 32], none⟩,
 ⟨(some 34), (some (33, true)), .faddr 1, [.slot 1], none⟩,
 ⟨(some 35), (some (33, true)), .load 1 false, [.slot 34], none⟩,
 ⟨(some 36), (some (33, true)), .bin .leq, [.slot 35, .val (.int .i64 1099511627776)], none⟩,
 ⟨(some 37), none, .pick, [.slot 33, .slot 36, .val (.bool false)], none⟩,
 ⟨(some 38), none, .id, [.slot 37], none⟩,
 ⟨(some 39), (some (38, true)), .faddr 2, [.slot 1], none⟩,
 ⟨(some 40), (some (38, true)), .load 1 false, [.slot 39], none⟩,
 ⟨(some 41), (some (38, true)), .bin .eql, [.slot 40, .val (.str ⟨#[]⟩)], none⟩,
 ⟨(some 42), none, .pick, [.slot 38, .slot 41, .val (.bool false)], none⟩,
 ⟨(some 2), none, .id, [.slot 42], none⟩])
 (.ret))
 (.seq
 (.region [
 ⟨(some 44), none, .bin .eql, [.slot 6, .val (.int .i64 3)], none⟩,
 ⟨(some 43), none, .id, [.slot 44], none⟩])
 (.cond (.slot 43)
 (.seq
 (.region [
 ⟨(some 45), none, .faddr 1, [.slot 1], none⟩,
 ⟨(some 46), none, .load 1 false, [.slot 45], none⟩,
 ⟨(some 47), none, .bin .eql, [.slot 46, .val (.int .i64 0)], none⟩,
 ⟨(some 48), none, .id, [.slot 47], none⟩,
 ⟨(some 49), (some (48, true)), .faddr 2, [.slot 1], none⟩,
 ⟨(some 50), (some (48, true)), .load 1 false, [.slot 49], none⟩,
 ⟨(some 51), (some (48, true)), .call f_value_plain, [.slot 50], none⟩,
 ⟨(some 52), none, .pick, [.slot 48, .slot 51, .val (.bool false)], none⟩,
 ⟨(some 2), none, .id, [.slot 52], none⟩])
 (.ret))
 (.seq
 (.region [
 ⟨(some 54), none, .bin .eql, [.slot 6, .val (.int .i64 4)], none⟩,
 ⟨(some 53), none, .id, [.slot 54], none⟩])
 (.cond (.slot 53)
 (.seq
 (.region [
 ⟨(some 55), none, .faddr 1, [.slot 1], none⟩,
 ⟨(some 56), none, .load 1 false, [.slot 55], none⟩,
 ⟨(some 57), none, .bin .eql, [.slot 56, .val (.int .i64 0)], none⟩,
 ⟨(some 58), none, .id, [.slot 57], none⟩,
 ⟨(some 59), (some (58, true)), .faddr 2, [.slot 1], none⟩,
 ⟨(some 60), (some (58, true)), .load 1 false, [.slot 59], none⟩,
 ⟨(some 61), (some (58, true)), .call f_value_Name, [.slot 60], none⟩,
 ⟨(some 62), none, .pick, [.slot 58, .slot 61, .val (.bool false)], none⟩,
 ⟨(some 2), none, .id, [.slot 62], none⟩])
 (.ret))
 (.skip)))))))))))))
 (.seq
 (.region [
 ⟨(some 64), none, .load 3 true, [.slot 1], none⟩,
 ⟨(some 65), none, .call f_value_Link, [.slot 64], none⟩,
 ⟨(some 63), none, .id, [.slot 65], none⟩,
 ⟨(some 66), none, .extract 0, [.slot 63], none⟩,
 ⟨(some 67), none, .extract 1, [.slot 63], none⟩,
 ⟨(some 3), none, .allocL [(.str ⟨#[]⟩), (.str ⟨#[]⟩), (.str ⟨#[]⟩)], [], none⟩,
 ⟨none, none, .store 3, [.slot 3, .slot 66], none⟩,
 ⟨(some 4), none, .id, [.slot 67], none⟩])
 (.seq
 (.region [
 ⟨(some 68), none, .id, [.slot 4], none⟩,
 ⟨(some 2), none, .id, [.slot 68], none⟩])
 (.ret))))
def F_value_Right : IFun := ⟨69, [.slot 2], b_value_Right, 8, 0, nofn⟩
theorem c_value_Right : cFun Tryz.prog [1048577, 1048579] 0 f_value_Right = some F_value_Right := by kernel_rfl

def F_strings_Builder_String : IFun := ⟨8, [], .trap, 5, 17, nofn⟩

def L0_hedgerowref18_run : ICode :=
 .seq
 (.seq
 (.region [
 ⟨(some 9), none, .id, [.slot 5], none⟩,
 ⟨(some 10), none, .id, [.slot 0], none⟩,
 ⟨(some 11), none, .lenstr, [.slot 10], none⟩,
 ⟨(some 12), none, .bin .lss, [.slot 9, .slot 11], none⟩])
 (.cond (.slot 12)
 (.skip)
 (.exit 0)))
 (.block 1
 (.seq
 (.region [
 ⟨(some 13), none, .id, [.slot 0], none⟩,
 ⟨(some 14), none, .id, [.slot 5], none⟩,
 ⟨(some 15), none, .ixstr, [.slot 13, .slot 14], none⟩,
 ⟨(some 6), none, .id, [.slot 15], none⟩])
 (.seq
 (.region [
 ⟨(some 16), none, .id, [.slot 6], none⟩,
 ⟨(some 17), none, .bin .geq, [.slot 16, .val (.int .u8 48)], none⟩,
 ⟨(some 18), none, .id, [.slot 17], none⟩,
 ⟨(some 19), (some (18, true)), .id, [.slot 6], none⟩,
 ⟨(some 20), (some (18, true)), .bin .leq, [.slot 19, .val (.int .u8 57)], none⟩,
 ⟨(some 21), none, .pick, [.slot 18, .slot 20, .val (.bool false)], none⟩,
 ⟨(some 7), none, .id, [.slot 21], none⟩])
 (.seq
 (.region [
 ⟨(some 22), none, .id, [.slot 6], none⟩,
 ⟨(some 23), none, .bin .geq, [.slot 22, .val (.int .u8 97)], none⟩,
 ⟨(some 24), none, .id, [.slot 23], none⟩,
 ⟨(some 25), (some (24, true)), .id, [.slot 6], none⟩,
 ⟨(some 26), (some (24, true)), .bin .leq, [.slot 25, .val (.int .u8 122)], none⟩,
 ⟨(some 27), none, .pick, [.slot 24, .slot 26, .val (.bool false)], none⟩,
 ⟨(some 28), none, .id, [.slot 27], none⟩,
 ⟨(some 29), (some (28, false)), .id, [.slot 6], none⟩,
 ⟨(some 30), (some (28, false)), .bin .geq, [.slot 29, .val (.int .u8 65)], none⟩,
 ⟨(some 31), (some (28, false)), .id, [.slot 30], none⟩,
 ⟨(some 32), (some (31, true)), .id, [.slot 6], none⟩,
 ⟨(some 33), (some (31, true)), .bin .leq, [.slot 32, .val (.int .u8 90)], none⟩,
 ⟨(some 34), (some (28, false)), .pick, [.slot 31, .slot 33, .val (.bool false)], none⟩,
 ⟨(some 35), none, .pick, [.slot 28, .val (.bool true), .slot 34], none⟩,
 ⟨(some 36), none, .id, [.slot 35], none⟩,
 ⟨(some 37), (some (36, false)), .id, [.slot 6], none⟩,
 ⟨(some 38), (some (36, false)), .bin .eql, [.slot 37, .val (.int .u8 95)], none⟩,
 ⟨(some 39), none, .pick, [.slot 36, .val (.bool true), .slot 38], none⟩,
 ⟨(some 8), none, .id, [.slot 39], none⟩])
 (.seq
 (.seq
 (.region [
 ⟨(some 40), none, .id, [.slot 7], none⟩,
 ⟨(some 41), none, .un .not, [.slot 40], none⟩,
 ⟨(some 42), none, .id, [.slot 41], none⟩,
 ⟨(some 43), (some (42, true)), .id, [.slot 1], none⟩,
 ⟨(some 44), (some (42, true)), .bin .eql, [.slot 43, .val (.int .i64 2)], none⟩,
 ⟨(some 45), (some (42, true)), .id, [.slot 44], none⟩,
 ⟨(some 46), (some (45, false)), .id, [.slot 8], none⟩,
 ⟨(some 47), (some (45, false)), .un .not, [.slot 46], none⟩,
 ⟨(some 48), (some (42, true)), .pick, [.slot 45, .val (.bool true), .slot 47], none⟩,
 ⟨(some 49), none, .pick, [.slot 42, .slot 48, .val (.bool false)], none⟩])
 (.cond (.slot 49)
 (.exit 0)
 (.skip)))
 (.region [
 ⟨(some 50), none, .id, [.slot 5], none⟩,
 ⟨(some 51), none, .bin .add, [.slot 50, .val (.int .i64 1)], none⟩,
 ⟨(some 5), none, .id, [.slot 51], none⟩]))))))
def b_hedgerowref18_run : ICode :=
 .seq
 (.region [
 ⟨(some 4), none, .id, [.val (.int .i64 0)], none⟩])
 (.seq
 (.region [
 ⟨(some 5), none, .id, [.val (.int .i64 0)], none⟩])
 (.seq
 (.block 0
 (.loop L0_hedgerowref18_run))
 (.seq
 (.region [
 ⟨(some 52), none, .id, [.slot 5], none⟩,
 ⟨(some 4), none, .id, [.slot 52], none⟩])
 (.ret))))
def F_hedgerowref18_run : IFun := ⟨53, [.slot 4], b_hedgerowref18_run, 8, 0, nofn⟩
theorem c_hedgerowref18_run : cFun Tryz.prog [] 0 f_hedgerowref18_run = some F_hedgerowref18_run := by kernel_rfl

def L0_hedgerowref18_text : ICode :=
 .seq
 (.seq
 (.region [
 ⟨(some 4), none, .id, [.slot 3], none⟩,
 ⟨(some 5), none, .id, [.slot 0], none⟩,
 ⟨(some 6), none, .lenstr, [.slot 5], none⟩,
 ⟨(some 7), none, .bin .lss, [.slot 4, .slot 6], none⟩])
 (.cond (.slot 7)
 (.skip)
 (.exit 0)))
 (.seq
 (.block 1
 (.seq
 (.region [
 ⟨(some 10), none, .id, [.slot 0], none⟩,
 ⟨(some 11), none, .id, [.slot 3], none⟩,
 ⟨(some 12), none, .ixstr, [.slot 10, .slot 11], none⟩,
 ⟨(some 13), none, .bin .eql, [.slot 12, .val (.int .u8 92)], none⟩])
 (.cond (.slot 13)
 (.region [
 ⟨(some 14), none, .id, [.slot 3], none⟩,
 ⟨(some 15), none, .bin .add, [.slot 14, .val (.int .i64 1)], none⟩,
 ⟨(some 3), none, .id, [.slot 15], none⟩])
 (.seq
 (.region [
 ⟨(some 16), none, .id, [.slot 0], none⟩,
 ⟨(some 17), none, .id, [.slot 3], none⟩,
 ⟨(some 18), none, .ixstr, [.slot 16, .slot 17], none⟩,
 ⟨(some 19), none, .bin .eql, [.slot 18, .val (.int .u8 39)], none⟩])
 (.cond (.slot 19)
 (.seq
 (.region [
 ⟨(some 20), none, .id, [.slot 3], none⟩,
 ⟨(some 21), none, .bin .add, [.slot 20, .val (.int .i64 1)], none⟩,
 ⟨(some 2), none, .id, [.slot 21], none⟩])
 (.ret))
 (.skip))))))
 (.region [
 ⟨(some 8), none, .id, [.slot 3], none⟩,
 ⟨(some 9), none, .bin .add, [.slot 8, .val (.int .i64 1)], none⟩,
 ⟨(some 3), none, .id, [.slot 9], none⟩]))
def b_hedgerowref18_text : ICode :=
 .seq
 (.region [
 ⟨(some 2), none, .id, [.val (.int .i64 0)], none⟩])
 (.seq
 (.seq
 (.region [
 ⟨(some 3), none, .id, [.val (.int .i64 1)], none⟩])
 (.block 0
 (.loop L0_hedgerowref18_text)))
 (.seq
 (.region [
 ⟨(some 2), none, .id, [.val (.int .i64 0)], none⟩])
 (.ret)))
def F_hedgerowref18_text : IFun := ⟨22, [.slot 2], b_hedgerowref18_text, 8, 0, nofn⟩
theorem c_hedgerowref18_text : cFun Tryz.prog [] 0 f_hedgerowref18_text = some F_hedgerowref18_text := by kernel_rfl

def L0_hedgerowref18_in : ICode :=
 .seq
 (.region [
 ⟨(some 10), none, .bin .lss, [.slot 9, .slot 8], none⟩])
 (.seq
 (.cond (.slot 10)
 (.skip)
 (.exit 0))
 (.seq
 (.block 1
 (.seq
 (.region [
 ⟨(some 11), none, .ixaddr 1, [.slot 7, .slot 9], none⟩,
 ⟨(some 12), none, .load 1 false, [.slot 11], none⟩,
 ⟨(some 6), none, .id, [.slot 12], none⟩])
 (.seq
 (.region [
 ⟨(some 13), none, .id, [.slot 6], none⟩,
 ⟨(some 14), none, .id, [.slot 1], none⟩,
 ⟨(some 15), none, .bin .eql, [.slot 13, .slot 14], none⟩])
 (.cond (.slot 15)
 (.seq
 (.region [
 ⟨(some 4), none, .id, [.val (.bool true)], none⟩])
 (.ret))
 (.skip)))))
 (.region [
 ⟨(some 16), none, .bin .add, [.slot 9, .val (.int .i64 1)], none⟩,
 ⟨(some 9), none, .id, [.slot 16], none⟩])))
def b_hedgerowref18_in : ICode :=
 .seq
 (.region [
 ⟨(some 4), none, .id, [.val (.bool false)], none⟩])
 (.seq
 (.seq
 (.region [
 ⟨(some 7), none, .id, [.slot 0], none⟩,
 ⟨(some 8), none, .lensl, [.slot 7], none⟩,
 ⟨(some 9), none, .id, [.val (.int .i64 0)], none⟩])
 (.block 0
 (.loop L0_hedgerowref18_in)))
 (.seq
 (.region [
 ⟨(some 4), none, .id, [.val (.bool false)], none⟩])
 (.ret)))
def F_hedgerowref18_in : IFun := ⟨17, [.slot 4], b_hedgerowref18_in, 8, 0, nofn⟩
theorem c_hedgerowref18_in : cFun Tryz.prog [] 0 f_hedgerowref18_in = some F_hedgerowref18_in := by kernel_rfl

def b_hedgerowref18_Signs : ICode :=
 .seq
 (.region [
 ⟨(some 0), none, .id, [.val .nilsl], none⟩])
 (.seq
 (.region [
 ⟨(some 1), none, .buildSl 1 20 (.str ⟨#[]⟩) [0, 1, 2, 3, 4, 5, 6, 7, 8, 9, 10, 11, 12, 13, 14, 15, 16, 17, 18, 19], [.val (.str ⟨#[40]⟩), .val (.str ⟨#[41]⟩), .val (.str ⟨#[91]⟩), .val (.str ⟨#[93]⟩), .val (.str ⟨#[58]⟩), .val (.str ⟨#[44]⟩), .val (.str ⟨#[46]⟩), .val (.str ⟨#[46, 46]⟩), .val (.str ⟨#[45]⟩), .val (.str ⟨#[45, 62]⟩), .val (.str ⟨#[60, 45]⟩), .val (.str ⟨#[61]⟩), .val (.str ⟨#[60, 62]⟩), .val (.str ⟨#[60]⟩), .val (.str ⟨#[60, 61]⟩), .val (.str ⟨#[62]⟩), .val (.str ⟨#[62, 61]⟩), .val (.str ⟨#[43]⟩), .val (.str ⟨#[42]⟩), .val (.str ⟨#[64]⟩)], none⟩,
 ⟨(some 0), none, .id, [.slot 1], none⟩])
 (.ret))
def F_hedgerowref18_Signs : IFun := ⟨2, [.slot 0], b_hedgerowref18_Signs, 8, 0, nofn⟩
theorem c_hedgerowref18_Signs : cFun Tryz.prog [] 0 f_hedgerowref18_Signs = some F_hedgerowref18_Signs := by kernel_rfl

def L0_hedgerowref01_Parse : ICode :=
 .seq
 (.seq
 (.region [
 ⟨(some 25), none, .id, [.slot 6], none⟩,
 ⟨(some 26), none, .id, [.slot 4], none⟩,
 ⟨(some 27), none, .lenstr, [.slot 26], none⟩,
 ⟨(some 28), none, .bin .lss, [.slot 25, .slot 27], none⟩])
 (.cond (.slot 28)
 (.skip)
 (.exit 0)))
 (.seq
 (.block 1
 (.seq
 (.seq
 (.region [
 ⟨(some 31), none, .id, [.slot 4], none⟩,
 ⟨(some 32), none, .id, [.slot 6], none⟩,
 ⟨(some 33), none, .ixstr, [.slot 31, .slot 32], none⟩,
 ⟨(some 34), none, .bin .eql, [.slot 33, .val (.int .u8 92)], none⟩,
 ⟨(some 35), none, .id, [.slot 34], none⟩,
 ⟨(some 36), (some (35, true)), .id, [.slot 6], none⟩,
 ⟨(some 37), (some (35, true)), .bin .add, [.slot 36, .val (.int .i64 1)], none⟩,
 ⟨(some 38), (some (35, true)), .id, [.slot 4], none⟩,
 ⟨(some 39), (some (35, true)), .lenstr, [.slot 38], none⟩,
 ⟨(some 40), (some (35, true)), .bin .lss, [.slot 37, .slot 39], none⟩,
 ⟨(some 41), none, .pick, [.slot 35, .slot 40, .val (.bool false)], none⟩])
 (.cond (.slot 41)
 (.region [
 ⟨(some 42), none, .id, [.slot 6], none⟩,
 ⟨(some 43), none, .bin .add, [.slot 42, .val (.int .i64 1)], none⟩,
 ⟨(some 6), none, .id, [.slot 43], none⟩])
 (.skip)))
 (.region [
 ⟨(some 44), none, .id, [.slot 5], none⟩,
 ⟨(some 45), none, .id, [.slot 4], none⟩,
 ⟨(some 46), none, .id, [.slot 6], none⟩,
 ⟨(some 47), none, .id, [.slot 6], none⟩,
 ⟨(some 48), none, .bin .add, [.slot 47, .val (.int .i64 1)], none⟩,
 ⟨(some 49), none, .slstr true true, [.slot 45, .slot 46, .slot 48], none⟩,
 ⟨(some 50), none, .bin .add, [.slot 44, .slot 49], none⟩,
 ⟨(some 5), none, .id, [.slot 50], none⟩])))
 (.region [
 ⟨(some 29), none, .id, [.slot 6], none⟩,
 ⟨(some 30), none, .bin .add, [.slot 29, .val (.int .i64 1)], none⟩,
 ⟨(some 6), none, .id, [.slot 30], none⟩]))
def L1_hedgerowref01_Parse : ICode :=
 .seq
 (.region [
 ⟨(some 66), none, .bin .lss, [.slot 65, .slot 64], none⟩])
 (.seq
 (.cond (.slot 66)
 (.skip)
 (.exit 2))
 (.seq
 (.block 3
 (.seq
 (.region [
 ⟨(some 67), none, .ixaddr 3, [.slot 63, .slot 65], none⟩,
 ⟨(some 68), none, .load 3 true, [.slot 67], none⟩,
 ⟨(some 8), none, .allocL [(.int .i64 0), (.int .i64 0), (.str ⟨#[]⟩)], [], none⟩,
 ⟨none, none, .store 3, [.slot 8, .slot 68], none⟩])
 (.seq
 (.region [
 ⟨(some 69), none, .load 3 true, [.slot 8], none⟩,
 ⟨(some 70), none, .call f_hedgerowref01_Right, [.slot 69], none⟩,
 ⟨(some 71), none, .id, [.slot 70], none⟩,
 ⟨(some 72), (some (71, true)), .load 3 true, [.slot 8], none⟩,
 ⟨(some 73), (some (71, true)), .call f_hedgerowref01_Text, [.slot 72], none⟩,
 ⟨(some 74), (some (71, true)), .id, [.slot 0], none⟩,
 ⟨(some 75), (some (71, true)), .bin .eql, [.slot 73, .slot 74], none⟩,
 ⟨(some 76), none, .pick, [.slot 71, .slot 75, .val (.bool false)], none⟩])
 (.cond (.slot 76)
 (.seq
 (.region [
 ⟨(some 77), none, .load 3 true, [.slot 8], none⟩,
 ⟨none, none, .store 3, [.slot 2, .slot 77], none⟩,
 ⟨(some 3), none, .id, [.val (.bool true)], none⟩])
 (.ret))
 (.skip)))))
 (.region [
 ⟨(some 78), none, .bin .add, [.slot 65, .val (.int .i64 1)], none⟩,
 ⟨(some 65), none, .id, [.slot 78], none⟩])))
def b_hedgerowref01_Parse : ICode :=
 .seq
 (.region [
 ⟨(some 2), none, .allocL [(.int .i64 0), (.int .i64 0), (.str ⟨#[]⟩)], [], none⟩,
 ⟨(some 3), none, .id, [.val (.bool false)], none⟩])
 (.seq
 (.seq
 (.region [
 ⟨(some 9), none, .id, [.slot 0], none⟩,
 ⟨(some 10), none, .bin .eql, [.slot 9, .val (.str ⟨#[]⟩)], none⟩,
 ⟨(some 11), none, .id, [.slot 10], none⟩,
 ⟨(some 12), (some (11, false)), .id, [.slot 0], none⟩,
 ⟨(some 13), (some (11, false)), .lenstr, [.slot 12], none⟩,
 ⟨(some 14), (some (11, false)), .bin .gtr, [.slot 13, .val (.int .i64 200)], none⟩,
 ⟨(some 15), none, .pick, [.slot 11, .val (.bool true), .slot 14], none⟩])
 (.cond (.slot 15)
 (.seq
 (.region [
 ⟨(some 16), none, .build [(.int .i64 0), (.int .i64 0), (.str ⟨#[]⟩)] [], [], none⟩,
 ⟨none, none, .store 3, [.slot 2, .slot 16], none⟩,
 ⟨(some 3), none, .id, [.val (.bool false)], none⟩])
 (.ret))
 (.skip)))
 (.seq
 (.region [
 ⟨(some 4), none, .id, [.val (.str ⟨#[]⟩)], none⟩])
 (.seq
 (.seq
 (.region [
 ⟨(some 17), none, .id, [.slot 0], none⟩,
 ⟨(some 18), none, .lenstr, [.slot 17], none⟩,
 ⟨(some 19), none, .bin .gtr, [.slot 18, .val (.int .i64 1)], none⟩])
 (.cond (.slot 19)
 (.region [
 ⟨(some 20), none, .id, [.slot 0], none⟩,
 ⟨(some 21), none, .id, [.slot 0], none⟩,
 ⟨(some 22), none, .lenstr, [.slot 21], none⟩,
 ⟨(some 23), none, .bin .sub, [.slot 22, .val (.int .i64 1)], none⟩,
 ⟨(some 24), none, .slstr true true, [.slot 20, .val (.int .i64 1), .slot 23], none⟩,
 ⟨(some 4), none, .id, [.slot 24], none⟩])
 (.skip)))
 (.seq
 (.region [
 ⟨(some 5), none, .id, [.val (.str ⟨#[]⟩)], none⟩])
 (.seq
 (.seq
 (.region [
 ⟨(some 6), none, .id, [.val (.int .i64 0)], none⟩])
 (.block 0
 (.loop L0_hedgerowref01_Parse)))
 (.seq
 (.seq
 (.region [
 ⟨(some 51), none, .build [(.int .i64 0), (.int .i64 0), (.str ⟨#[]⟩)] [], [], none⟩,
 ⟨(some 52), none, .build [(.int .i64 0), (.int .i64 0), (.str ⟨#[]⟩)] [(0, 1)], [.val (.int .i64 1)], none⟩,
 ⟨(some 53), none, .build [(.int .i64 0), (.int .i64 0), (.str ⟨#[]⟩)] [(0, 1), (1, 1)], [.val (.int .i64 1), .val (.int .i64 1)], none⟩,
 ⟨(some 54), none, .id, [.slot 0], none⟩,
 ⟨(some 55), none, .call f_hedgerowref01_number, [.slot 54], none⟩,
 ⟨(some 56), none, .build [(.int .i64 0), (.int .i64 0), (.str ⟨#[]⟩)] [(0, 1), (1, 1)], [.val (.int .i64 2), .slot 55], none⟩,
 ⟨(some 57), none, .id, [.slot 5], none⟩,
 ⟨(some 58), none, .build [(.int .i64 0), (.int .i64 0), (.str ⟨#[]⟩)] [(0, 1), (2, 1)], [.val (.int .i64 3), .slot 57], none⟩,
 ⟨(some 59), none, .id, [.slot 4], none⟩,
 ⟨(some 60), none, .build [(.int .i64 0), (.int .i64 0), (.str ⟨#[]⟩)] [(0, 1), (2, 1)], [.val (.int .i64 4), .slot 59], none⟩,
 ⟨(some 61), none, .id, [.slot 4], none⟩,
 ⟨(some 62), none, .build [(.int .i64 0), (.int .i64 0), (.str ⟨#[]⟩)] [(0, 1), (2, 1)], [.val (.int .i64 5), .slot 61], none⟩,
 ⟨(some 63), none, .buildSl 3 7 (.agg [(.int .i64 0), (.int .i64 0), (.str ⟨#[]⟩)]) [0, 1, 2, 3, 4, 5, 6], [.slot 51, .slot 52, .slot 53, .slot 56, .slot 58, .slot 60, .slot 62], none⟩,
 ⟨(some 64), none, .lensl, [.slot 63], none⟩,
 ⟨(some 65), none, .id, [.val (.int .i64 0)], none⟩])
 (.block 2
 (.loop L1_hedgerowref01_Parse)))
 (.seq
 (.region [
 ⟨(some 79), none, .build [(.int .i64 0), (.int .i64 0), (.str ⟨#[]⟩)] [], [], none⟩,
 ⟨none, none, .store 3, [.slot 2, .slot 79], none⟩,
 ⟨(some 3), none, .id, [.val (.bool false)], none⟩])
 (.ret))))))))
def F_hedgerowref01_Parse : IFun := ⟨80, [.cell 2 3 true, .slot 3], b_hedgerowref01_Parse, 8, 0, nofn⟩
theorem c_hedgerowref01_Parse : cFun Tryz.prog [1048578, 1048584] 0 f_hedgerowref01_Parse = some F_hedgerowref01_Parse := by kernel_rfl

def b_hedgerowref18_Words : ICode :=
 .seq
 (.region [
 ⟨(some 0), none, .id, [.val .nilsl], none⟩])
 (.seq
 (.region [
 ⟨(some 1), none, .buildSl 1 26 (.str ⟨#[]⟩) [0, 1, 2, 3, 4, 5, 6, 7, 8, 9, 10, 11, 12, 13, 14, 15, 16, 17, 18, 19, 20, 21, 22, 23, 24, 25], [.val (.str ⟨#[77, 65, 84, 67, 72]⟩), .val (.str ⟨#[79, 80, 84, 73, 79, 78, 65, 76]⟩), .val (.str ⟨#[87, 72, 69, 82, 69]⟩), .val (.str ⟨#[82, 69, 84, 85, 82, 78]⟩), .val (.str ⟨#[68, 73, 83, 84, 73, 78, 67, 84]⟩), .val (.str ⟨#[79, 82, 68, 69, 82]⟩), .val (.str ⟨#[66, 89]⟩), .val (.str ⟨#[68, 69, 83, 67]⟩), .val (.str ⟨#[83, 75, 73, 80]⟩), .val (.str ⟨#[76, 73, 77, 73, 84]⟩), .val (.str ⟨#[67, 82, 69, 65, 84, 69]⟩), .val (.str ⟨#[83, 69, 84]⟩), .val (.str ⟨#[82, 69, 77, 79, 86, 69]⟩), .val (.str ⟨#[68, 69, 76, 69, 84, 69]⟩), .val (.str ⟨#[65, 78, 68]⟩), .val (.str ⟨#[79, 82]⟩), .val (.str ⟨#[78, 79, 84]⟩), .val (.str ⟨#[73, 83]⟩), .val (.str ⟨#[78, 85, 76, 76]⟩), .val (.str ⟨#[84, 82, 85, 69]⟩), .val (.str ⟨#[70, 65, 76, 83, 69]⟩), .val (.str ⟨#[67, 79, 85, 78, 84]⟩), .val (.str ⟨#[83, 85, 77]⟩), .val (.str ⟨#[77, 73, 78]⟩), .val (.str ⟨#[77, 65, 88]⟩), .val (.str ⟨#[77, 65, 78, 89]⟩)], none⟩,
 ⟨(some 0), none, .id, [.slot 1], none⟩])
 (.ret))
def F_hedgerowref18_Words : IFun := ⟨2, [.slot 0], b_hedgerowref18_Words, 8, 0, nofn⟩
theorem c_hedgerowref18_Words : cFun Tryz.prog [] 0 f_hedgerowref18_Words = some F_hedgerowref18_Words := by kernel_rfl

def L0_hedgerowref01_Name : ICode :=
 .seq
 (.seq
 (.region [
 ⟨(some 7), none, .id, [.slot 3], none⟩,
 ⟨(some 8), none, .id, [.slot 0], none⟩,
 ⟨(some 9), none, .lenstr, [.slot 8], none⟩,
 ⟨(some 10), none, .bin .lss, [.slot 7, .slot 9], none⟩])
 (.cond (.slot 10)
 (.skip)
 (.exit 0)))
 (.seq
 (.block 1
 (.seq
 (.region [
 ⟨(some 13), none, .id, [.slot 0], none⟩,
 ⟨(some 14), none, .id, [.slot 3], none⟩,
 ⟨(some 15), none, .ixstr, [.slot 13, .slot 14], none⟩,
 ⟨(some 4), none, .id, [.slot 15], none⟩])
 (.seq
 (.region [
 ⟨(some 16), none, .id, [.slot 4], none⟩,
 ⟨(some 17), none, .bin .geq, [.slot 16, .val (.int .u8 97)], none⟩,
 ⟨(some 18), none, .id, [.slot 17], none⟩,
 ⟨(some 19), (some (18, true)), .id, [.slot 4], none⟩,
 ⟨(some 20), (some (18, true)), .bin .leq, [.slot 19, .val (.int .u8 122)], none⟩,
 ⟨(some 21), none, .pick, [.slot 18, .slot 20, .val (.bool false)], none⟩,
 ⟨(some 22), none, .id, [.slot 21], none⟩,
 ⟨(some 23), (some (22, false)), .id, [.slot 4], none⟩,
 ⟨(some 24), (some (22, false)), .bin .geq, [.slot 23, .val (.int .u8 65)], none⟩,
 ⟨(some 25), (some (22, false)), .id, [.slot 24], none⟩,
 ⟨(some 26), (some (25, true)), .id, [.slot 4], none⟩,
 ⟨(some 27), (some (25, true)), .bin .leq, [.slot 26, .val (.int .u8 90)], none⟩,
 ⟨(some 28), (some (22, false)), .pick, [.slot 25, .slot 27, .val (.bool false)], none⟩,
 ⟨(some 29), none, .pick, [.slot 22, .val (.bool true), .slot 28], none⟩,
 ⟨(some 5), none, .id, [.slot 29], none⟩])
 (.seq
 (.region [
 ⟨(some 30), none, .id, [.slot 4], none⟩,
 ⟨(some 31), none, .bin .geq, [.slot 30, .val (.int .u8 48)], none⟩,
 ⟨(some 32), none, .id, [.slot 31], none⟩,
 ⟨(some 33), (some (32, true)), .id, [.slot 4], none⟩,
 ⟨(some 34), (some (32, true)), .bin .leq, [.slot 33, .val (.int .u8 57)], none⟩,
 ⟨(some 35), none, .pick, [.slot 32, .slot 34, .val (.bool false)], none⟩,
 ⟨(some 36), none, .id, [.slot 35], none⟩,
 ⟨(some 37), (some (36, false)), .id, [.slot 4], none⟩,
 ⟨(some 38), (some (36, false)), .bin .eql, [.slot 37, .val (.int .u8 95)], none⟩,
 ⟨(some 39), none, .pick, [.slot 36, .val (.bool true), .slot 38], none⟩,
 ⟨(some 6), none, .id, [.slot 39], none⟩])
 (.seq
 (.region [
 ⟨(some 40), none, .id, [.slot 5], none⟩,
 ⟨(some 41), none, .un .not, [.slot 40], none⟩,
 ⟨(some 42), none, .id, [.slot 41], none⟩,
 ⟨(some 43), (some (42, true)), .id, [.slot 6], none⟩,
 ⟨(some 44), (some (42, true)), .un .not, [.slot 43], none⟩,
 ⟨(some 45), (some (42, true)), .id, [.slot 44], none⟩,
 ⟨(some 46), (some (45, false)), .id, [.slot 3], none⟩,
 ⟨(some 47), (some (45, false)), .bin .eql, [.slot 46, .val (.int .i64 0)], none⟩,
 ⟨(some 48), (some (42, true)), .pick, [.slot 45, .val (.bool true), .slot 47], none⟩,
 ⟨(some 49), none, .pick, [.slot 42, .slot 48, .val (.bool false)], none⟩])
 (.cond (.slot 49)
 (.seq
 (.region [
 ⟨(some 2), none, .id, [.val (.bool false)], none⟩])
 (.ret))
 (.skip)))))))
 (.region [
 ⟨(some 11), none, .id, [.slot 3], none⟩,
 ⟨(some 12), none, .bin .add, [.slot 11, .val (.int .i64 1)], none⟩,
 ⟨(some 3), none, .id, [.slot 12], none⟩]))
def b_hedgerowref01_Name : ICode :=
 .seq
 (.region [
 ⟨(some 2), none, .id, [.val (.bool false)], none⟩])
 (.seq
 (.seq
 (.region [
 ⟨(some 3), none, .id, [.val (.int .i64 0)], none⟩])
 (.block 0
 (.loop L0_hedgerowref01_Name)))
 (.seq
 (.region [
 ⟨(some 50), none, .id, [.slot 0], none⟩,
 ⟨(some 51), none, .lenstr, [.slot 50], none⟩,
 ⟨(some 52), none, .bin .geq, [.slot 51, .val (.int .i64 1)], none⟩,
 ⟨(some 53), none, .id, [.slot 52], none⟩,
 ⟨(some 54), (some (53, true)), .id, [.slot 0], none⟩,
 ⟨(some 55), (some (53, true)), .lenstr, [.slot 54], none⟩,
 ⟨(some 56), (some (53, true)), .bin .leq, [.slot 55, .val (.int .i64 16)], none⟩,
 ⟨(some 57), none, .pick, [.slot 53, .slot 56, .val (.bool false)], none⟩,
 ⟨(some 2), none, .id, [.slot 57], none⟩])
 (.ret)))
def F_hedgerowref01_Name : IFun := ⟨58, [.slot 2], b_hedgerowref01_Name, 8, 0, nofn⟩
theorem c_hedgerowref01_Name : cFun Tryz.prog [] 0 f_hedgerowref01_Name = some F_hedgerowref01_Name := by kernel_rfl

def b_hedgerowref01_Digits : ICode :=
 .seq
 (.region [
 ⟨(some 2), none, .id, [.val (.str ⟨#[]⟩)], none⟩])
 (.seq
 (.seq
 (.region [
 ⟨(some 3), none, .id, [.slot 0], none⟩,
 ⟨(some 4), none, .bin .lss, [.slot 3, .val (.int .i64 0)], none⟩,
 ⟨(some 5), none, .id, [.slot 4], none⟩,
 ⟨(some 6), (some (5, true)), .id, [.slot 0], none⟩,
 ⟨(some 7), (some (5, true)), .bin .gtr, [.slot 6, .val (.int .i64 (-10))], none⟩,
 ⟨(some 8), none, .pick, [.slot 5, .slot 7, .val (.bool false)], none⟩])
 (.cond (.slot 8)
 (.seq
 (.region [
 ⟨(some 9), none, .id, [.slot 0], none⟩,
 ⟨(some 10), none, .bin .sub, [.val (.int .i64 48), .slot 9], none⟩,
 ⟨(some 11), none, .conv .u8, [.slot 10], none⟩,
 ⟨(some 12), none, .buildSl 1 1 (.int .u8 0) [0], [.slot 11], none⟩,
 ⟨(some 13), none, .b2s, [.slot 12], none⟩,
 ⟨(some 14), none, .bin .add, [.val (.str ⟨#[45]⟩), .slot 13], none⟩,
 ⟨(some 2), none, .id, [.slot 14], none⟩])
 (.ret))
 (.skip)))
 (.seq
 (.seq
 (.region [
 ⟨(some 15), none, .id, [.slot 0], none⟩,
 ⟨(some 16), none, .bin .lss, [.slot 15, .val (.int .i64 0)], none⟩])
 (.cond (.slot 16)
 (.seq
 (.region [
 ⟨(some 17), none, .id, [.slot 0], none⟩,
 ⟨(some 18), none, .bin .quo, [.slot 17, .val (.int .i64 10)], none⟩,
 ⟨(some 19), none, .call f_hedgerowref01_Digits, [.slot 18], none⟩,
 ⟨(some 20), none, .id, [.slot 0], none⟩,
 ⟨(some 21), none, .bin .rem, [.slot 20, .val (.int .i64 10)], none⟩,
 ⟨(some 22), none, .bin .sub, [.val (.int .i64 48), .slot 21], none⟩,
 ⟨(some 23), none, .conv .u8, [.slot 22], none⟩,
 ⟨(some 24), none, .buildSl 1 1 (.int .u8 0) [0], [.slot 23], none⟩,
 ⟨(some 25), none, .b2s, [.slot 24], none⟩,
 ⟨(some 26), none, .bin .add, [.slot 19, .slot 25], none⟩,
 ⟨(some 2), none, .id, [.slot 26], none⟩])
 (.ret))
 (.skip)))
 (.seq
 (.seq
 (.region [
 ⟨(some 27), none, .id, [.slot 0], none⟩,
 ⟨(some 28), none, .bin .lss, [.slot 27, .val (.int .i64 10)], none⟩])
 (.cond (.slot 28)
 (.seq
 (.region [
 ⟨(some 29), none, .id, [.slot 0], none⟩,
 ⟨(some 30), none, .bin .add, [.val (.int .i64 48), .slot 29], none⟩,
 ⟨(some 31), none, .conv .u8, [.slot 30], none⟩,
 ⟨(some 32), none, .buildSl 1 1 (.int .u8 0) [0], [.slot 31], none⟩,
 ⟨(some 33), none, .b2s, [.slot 32], none⟩,
 ⟨(some 2), none, .id, [.slot 33], none⟩])
 (.ret))
 (.skip)))
 (.seq
 (.region [
 ⟨(some 34), none, .id, [.slot 0], none⟩,
 ⟨(some 35), none, .bin .quo, [.slot 34, .val (.int .i64 10)], none⟩,
 ⟨(some 36), none, .call f_hedgerowref01_Digits, [.slot 35], none⟩,
 ⟨(some 37), none, .id, [.slot 0], none⟩,
 ⟨(some 38), none, .bin .rem, [.slot 37, .val (.int .i64 10)], none⟩,
 ⟨(some 39), none, .bin .add, [.val (.int .i64 48), .slot 38], none⟩,
 ⟨(some 40), none, .conv .u8, [.slot 39], none⟩,
 ⟨(some 41), none, .buildSl 1 1 (.int .u8 0) [0], [.slot 40], none⟩,
 ⟨(some 42), none, .b2s, [.slot 41], none⟩,
 ⟨(some 43), none, .bin .add, [.slot 36, .slot 42], none⟩,
 ⟨(some 2), none, .id, [.slot 43], none⟩])
 (.ret)))))
def F_hedgerowref01_Digits : IFun := ⟨44, [.slot 2], b_hedgerowref01_Digits, 8, 0, nofn⟩
theorem c_hedgerowref01_Digits : cFun Tryz.prog [] 0 f_hedgerowref01_Digits = some F_hedgerowref01_Digits := by kernel_rfl

def L0_hedgerowref01_Text : ICode :=
 .seq
 (.seq
 (.region [
 ⟨(some 34), none, .id, [.slot 4], none⟩,
 ⟨(some 35), none, .faddr 2, [.slot 1], none⟩,
 ⟨(some 36), none, .load 1 false, [.slot 35], none⟩,
 ⟨(some 37), none, .lenstr, [.slot 36], none⟩,
 ⟨(some 38), none, .bin .lss, [.slot 34, .slot 37], none⟩])
 (.cond (.slot 38)
 (.skip)
 (.exit 1)))
 (.seq
 (.block 2
 (.seq
 (.seq
 (.region [
 ⟨(some 41), none, .faddr 2, [.slot 1], none⟩,
 ⟨(some 42), none, .load 1 false, [.slot 41], none⟩,
 ⟨(some 43), none, .id, [.slot 4], none⟩,
 ⟨(some 44), none, .ixstr, [.slot 42, .slot 43], none⟩,
 ⟨(some 45), none, .bin .eql, [.slot 44, .val (.int .u8 39)], none⟩,
 ⟨(some 46), none, .id, [.slot 45], none⟩,
 ⟨(some 47), (some (46, false)), .faddr 2, [.slot 1], none⟩,
 ⟨(some 48), (some (46, false)), .load 1 false, [.slot 47], none⟩,
 ⟨(some 49), (some (46, false)), .id, [.slot 4], none⟩,
 ⟨(some 50), (some (46, false)), .ixstr, [.slot 48, .slot 49], none⟩,
 ⟨(some 51), (some (46, false)), .bin .eql, [.slot 50, .val (.int .u8 92)], none⟩,
 ⟨(some 52), none, .pick, [.slot 46, .val (.bool true), .slot 51], none⟩])
 (.cond (.slot 52)
 (.region [
 ⟨(some 53), none, .id, [.slot 3], none⟩,
 ⟨(some 54), none, .buildSl 1 1 (.int .u8 0) [0], [.val (.int .u8 92)], none⟩,
 ⟨(some 55), none, .b2s, [.slot 54], none⟩,
 ⟨(some 56), none, .bin .add, [.slot 53, .slot 55], none⟩,
 ⟨(some 3), none, .id, [.slot 56], none⟩])
 (.skip)))
 (.region [
 ⟨(some 57), none, .id, [.slot 3], none⟩,
 ⟨(some 58), none, .faddr 2, [.slot 1], none⟩,
 ⟨(some 59), none, .load 1 false, [.slot 58], none⟩,
 ⟨(some 60), none, .id, [.slot 4], none⟩,
 ⟨(some 61), none, .id, [.slot 4], none⟩,
 ⟨(some 62), none, .bin .add, [.slot 61, .val (.int .i64 1)], none⟩,
 ⟨(some 63), none, .slstr true true, [.slot 59, .slot 60, .slot 62], none⟩,
 ⟨(some 64), none, .bin .add, [.slot 57, .slot 63], none⟩,
 ⟨(some 3), none, .id, [.slot 64], none⟩])))
 (.region [
 ⟨(some 39), none, .id, [.slot 4], none⟩,
 ⟨(some 40), none, .bin .add, [.slot 39, .val (.int .i64 1)], none⟩,
 ⟨(some 4), none, .id, [.slot 40], none⟩]))
def b_hedgerowref01_Text : ICode :=
 .seq
 (.region [
 ⟨(some 1), none, .boxL, [.slot 0], none⟩,
 ⟨(some 2), none, .id, [.val (.str ⟨#[]⟩)], none⟩])
 (.seq
 (.seq
 (.region [
 ⟨(some 5), none, .load 3 true, [.slot 1], none⟩,
 ⟨(some 6), none, .call f_hedgerowref01_Right, [.slot 5], none⟩,
 ⟨(some 7), none, .un .not, [.slot 6], none⟩])
 (.cond (.slot 7)
 (.seq
 (.region [
 ⟨(some 2), none, .id, [.val (.str ⟨#[]⟩)], none⟩])
 (.ret))
 (.skip)))
 (.seq
 (.seq
 (.region [
 ⟨(some 8), none, .faddr 0, [.slot 1], none⟩,
 ⟨(some 9), none, .load 1 false, [.slot 8], none⟩])
 (.block 0
 (.seq
 (.region [
 ⟨(some 11), none, .bin .eql, [.slot 9, .val (.int .i64 0)], none⟩,
 ⟨(some 10), none, .id, [.slot 11], none⟩])
 (.cond (.slot 10)
 (.seq
 (.region [
 ⟨(some 2), none, .id, [.val (.str ⟨#[110, 117, 108, 108]⟩)], none⟩])
 (.ret))
 (.seq
 (.region [
 ⟨(some 13), none, .bin .eql, [.slot 9, .val (.int .i64 1)], none⟩,
 ⟨(some 12), none, .id, [.slot 13], none⟩])
 (.cond (.slot 12)
 (.seq
 (.seq
 (.region [
 ⟨(some 14), none, .faddr 1, [.slot 1], none⟩,
 ⟨(some 15), none, .load 1 false, [.slot 14], none⟩,
 ⟨(some 16), none, .bin .eql, [.slot 15, .val (.int .i64 1)], none⟩])
 (.cond (.slot 16)
 (.seq
 (.region [
 ⟨(some 2), none, .id, [.val (.str ⟨#[116, 114, 117, 101]⟩)], none⟩])
 (.ret))
 (.skip)))
 (.seq
 (.region [
 ⟨(some 2), none, .id, [.val (.str ⟨#[102, 97, 108, 115, 101]⟩)], none⟩])
 (.ret)))
 (.seq
 (.region [
 ⟨(some 18), none, .bin .eql, [.slot 9, .val (.int .i64 2)], none⟩,
 ⟨(some 17), none, .id, [.slot 18], none⟩])
 (.cond (.slot 17)
 (.seq
 (.region [
 ⟨(some 19), none, .faddr 1, [.slot 1], none⟩,
 ⟨(some 20), none, .load 1 false, [.slot 19], none⟩,
 ⟨(some 21), none, .call f_hedgerowref01_Digits, [.slot 20], none⟩,
 ⟨(some 2), none, .id, [.slot 21], none⟩])
 (.ret))
 (.seq
 (.region [
 ⟨(some 23), none, .bin .eql, [.slot 9, .val (.int .i64 4)], none⟩,
 ⟨(some 22), none, .id, [.slot 23], none⟩])
 (.cond (.slot 22)
 (.seq
 (.region [
 ⟨(some 24), none, .faddr 2, [.slot 1], none⟩,
 ⟨(some 25), none, .load 1 false, [.slot 24], none⟩,
 ⟨(some 26), none, .bin .add, [.val (.str ⟨#[40]⟩), .slot 25], none⟩,
 ⟨(some 27), none, .bin .add, [.slot 26, .val (.str ⟨#[41]⟩)], none⟩,
 ⟨(some 2), none, .id, [.slot 27], none⟩])
 (.ret))
 (.seq
 (.region [
 ⟨(some 29), none, .bin .eql, [.slot 9, .val (.int .i64 5)], none⟩,
 ⟨(some 28), none, .id, [.slot 29], none⟩])
 (.cond (.slot 28)
 (.seq
 (.region [
 ⟨(some 30), none, .faddr 2, [.slot 1], none⟩,
 ⟨(some 31), none, .load 1 false, [.slot 30], none⟩,
 ⟨(some 32), none, .bin .add, [.val (.str ⟨#[91]⟩), .slot 31], none⟩,
 ⟨(some 33), none, .bin .add, [.slot 32, .val (.str ⟨#[93]⟩)], none⟩,
 ⟨(some 2), none, .id, [.slot 33], none⟩])
 (.ret))
 (.skip)))))))))))))
 (.seq
 (.region [
 ⟨(some 3), none, .id, [.val (.str ⟨#[39]⟩)], none⟩])
 (.seq
 (.seq
 (.region [
 ⟨(some 4), none, .id, [.val (.int .i64 0)], none⟩])
 (.block 1
 (.loop L0_hedgerowref01_Text)))
 (.seq
 (.region [
 ⟨(some 65), none, .id, [.slot 3], none⟩,
 ⟨(some 66), none, .bin .add, [.slot 65, .val (.str ⟨#[39]⟩)], none⟩,
 ⟨(some 2), none, .id, [.slot 66], none⟩])
 (.ret))))))
def F_hedgerowref01_Text : IFun := ⟨67, [.slot 2], b_hedgerowref01_Text, 8, 0, nofn⟩
theorem c_hedgerowref01_Text : cFun Tryz.prog [1048577] 0 f_hedgerowref01_Text = some F_hedgerowref01_Text := by kernel_rfl

def b_hedgerowref01_Right : ICode :=
 .seq
 (.region [
 ⟨(some 1), none, .boxL, [.slot 0], none⟩,
 ⟨(some 2), none, .id, [.val (.bool false)], none⟩])
 (.seq
 (.seq
 (.region [
 ⟨(some 5), none, .faddr 0, [.slot 1], none⟩,
 ⟨(some 6), none, .load 1 false, [.slot 5], none⟩])
 (.block 0
 (.seq
 (.region [
 ⟨(some 8), none, .bin .eql, [.slot 6, .val (.int .i64 0)], none⟩,
 ⟨(some 7), none, .id, [.slot 8], none⟩])
 (.cond (.slot 7)
 (.seq
 (.region [
 ⟨(some 9), none, .faddr 1, [.slot 1], none⟩,
 ⟨(some 10), none, .load 1 false, [.slot 9], none⟩,
 ⟨(some 11), none, .bin .eql, [.slot 10, .val (.int .i64 0)], none⟩,
 ⟨(some 12), none, .id, [.slot 11], none⟩,
 ⟨(some 13), (some (12, true)), .faddr 2, [.slot 1], none⟩,
 ⟨(some 14), (some (12, true)), .load 1 false, [.slot 13], none⟩,
 ⟨(some 15), (some (12, true)), .bin .eql, [.slot 14, .val (.str ⟨#[]⟩)], none⟩,
 ⟨(some 16), none, .pick, [.slot 12, .slot 15, .val (.bool false)], none⟩,
 ⟨(some 2), none, .id, [.slot 16], none⟩])
 (.ret))
 (.seq
 (.region [
 ⟨(some 18), none, .bin .eql, [.slot 6, .val (.int .i64 1)], none⟩,
 ⟨(some 17), none, .id, [.slot 18], none⟩])
 (.cond (.slot 17)
 (.seq
 (.region [
 ⟨(some 19), none, .faddr 1, [.slot 1], none⟩,
 ⟨(some 20), none, .load 1 false, [.slot 19], none⟩,
 ⟨(some 21), none, .bin .eql, [.slot 20, .val (.int .i64 0)], none⟩,
 ⟨(some 22), none, .id, [.slot 21], none⟩,
 ⟨(some 23), (some (22, false)), .faddr 1, [.slot 1], none⟩,
 ⟨(some 24), (some (22, false)), .load 1 false, [.slot 23], none⟩,
 ⟨(some 25), (some (22, false)), .bin .eql, [.slot 24, .val (.int .i64 1)], none⟩,
 ⟨(some 26), none, .pick, [.slot 22, .val (.bool true), .slot 25], none⟩,
 ⟨(some 27), none, .id, [.slot 26], none⟩,
 ⟨(some 28), (some (27, true)), .faddr 2, [.slot 1], none⟩,
 ⟨(some 29), (some (27, true)), .load 1 false, [.slot 28], none⟩,
 ⟨(some 30), (some (27, true)), .bin .eql, [.slot 29, .val (.str ⟨#[]⟩)], none⟩,
 ⟨(some 31), none, .pick, [.slot 27, .slot 30, .val (.bool false)], none⟩,
 ⟨(some 2), none, .id, [.slot 31], none⟩])
 (.ret))
 (.seq
 (.region [
 ⟨(some 33), none, .bin .eql, [.slot 6, .val (.int .i64 2)], none⟩,
 ⟨(some 32), none, .id, [.slot 33], none⟩])
 (.cond (.slot 32)
 (.seq
 (.region [
 ⟨(some 34), none, .faddr 1, [.slot 1], none⟩,
 ⟨(some 35), none, .load 1 false, [.slot 34], none⟩,
 ⟨(some 36), none, .bin .geq, [.slot 35, .val (.int .i64 (-1099511627776))], none⟩,
 ⟨(some 37), none, .id, [.slot 36], none⟩,
 ⟨(some 38), (some (37, true)), .faddr 1, [.slot 1], none⟩,
 ⟨(some 39), (some (37, true)), .load 1 false, [.slot 38], none⟩,
 ⟨(some 40), (some (37, true)), .bin .leq, [.slot 39, .val (.int .i64 1099511627776)], none⟩,
 ⟨(some 41), none, .pick, [.slot 37, .slot 40, .val (.bool false)], none⟩,
 ⟨(some 42), none, .id, [.slot 41], none⟩,
 ⟨(some 43), (some (42, true)), .faddr 2, [.slot 1], none⟩,
 ⟨(some 44), (some (42, true)), .load 1 false, [.slot 43], none⟩,
 ⟨(some 45), (some (42, true)), .bin .eql, [.slot 44, .val (.str ⟨#[]⟩)], none⟩,
 ⟨(some 46), none, .pick, [.slot 42, .slot 45, .val (.bool false)], none⟩,
 ⟨(some 2), none, .id, [.slot 46], none⟩])
 (.ret))
 (.seq
 (.region [
 ⟨(some 48), none, .bin .eql, [.slot 6, .val (.int .i64 3)], none⟩,
 ⟨(some 47), none, .id, [.slot 48], none⟩])
 (.cond (.slot 47)
 (.seq
 (.region [
 ⟨(some 49), none, .faddr 1, [.slot 1], none⟩,
 ⟨(some 50), none, .load 1 false, [.slot 49], none⟩,
 ⟨(some 51), none, .bin .eql, [.slot 50, .val (.int .i64 0)], none⟩,
 ⟨(some 52), none, .id, [.slot 51], none⟩,
 ⟨(some 53), (some (52, true)), .faddr 2, [.slot 1], none⟩,
 ⟨(some 54), (some (52, true)), .load 1 false, [.slot 53], none⟩,
 ⟨(some 55), (some (52, true)), .call f_hedgerowref01_plain, [.slot 54], none⟩,
 ⟨(some 56), none, .pick, [.slot 52, .slot 55, .val (.bool false)], none⟩,
 ⟨(some 2), none, .id, [.slot 56], none⟩])
 (.ret))
 (.seq
 (.region [
 ⟨(some 58), none, .bin .eql, [.slot 6, .val (.int .i64 4)], none⟩,
 ⟨(some 57), none, .id, [.slot 58], none⟩])
 (.cond (.slot 57)
 (.seq
 (.region [
 ⟨(some 59), none, .faddr 1, [.slot 1], none⟩,
 ⟨(some 60), none, .load 1 false, [.slot 59], none⟩,
 ⟨(some 61), none, .bin .eql, [.slot 60, .val (.int .i64 0)], none⟩,
 ⟨(some 62), none, .id, [.slot 61], none⟩,
 ⟨(some 63), (some (62, true)), .faddr 2, [.slot 1], none⟩,
 ⟨(some 64), (some (62, true)), .load 1 false, [.slot 63], none⟩,
 ⟨(some 65), (some (62, true)), .call f_hedgerowref01_Name, [.slot 64], none⟩,
 ⟨(some 66), none, .pick, [.slot 62, .slot 65, .val (.bool false)], none⟩,
 ⟨(some 2), none, .id, [.slot 66], none⟩])
 (.ret))
 (.seq
 (.region [
 ⟨(some 68), none, .bin .eql, [.slot 6, .val (.int .i64 5)], none⟩,
 ⟨(some 67), none, .id, [.slot 68], none⟩])
 (.cond (.slot 67)
 (.seq
 (.region [
 ⟨(some 70), none, .faddr 2, [.slot 1], none⟩,
 ⟨(some 71), none, .load 1 false, [.slot 70], none⟩,
 ⟨(some 72), none, .call f_hedgerowref01_Link, [.slot 71], none⟩,
 ⟨(some 69), none, .id, [.slot 72], none⟩,
 ⟨(some 73), none, .extract 0, [.slot 69], none⟩,
 ⟨(some 74), none, .extract 1, [.slot 69], none⟩,
 ⟨(some 3), none, .allocL [(.str ⟨#[]⟩), (.str ⟨#[]⟩), (.str ⟨#[]⟩)], [], none⟩,
 ⟨none, none, .store 3, [.slot 3, .slot 73], none⟩,
 ⟨(some 4), none, .id, [.slot 74], none⟩])
 (.seq
 (.region [
 ⟨(some 75), none, .faddr 1, [.slot 1], none⟩,
 ⟨(some 76), none, .load 1 false, [.slot 75], none⟩,
 ⟨(some 77), none, .bin .eql, [.slot 76, .val (.int .i64 0)], none⟩,
 ⟨(some 78), none, .id, [.slot 77], none⟩,
 ⟨(some 79), (some (78, true)), .id, [.slot 4], none⟩,
 ⟨(some 80), none, .pick, [.slot 78, .slot 79, .val (.bool false)], none⟩,
 ⟨(some 2), none, .id, [.slot 80], none⟩])
 (.ret)))
 (.skip)))))))))))))))
 (.seq
 (.region [
 ⟨(some 2), none, .id, [.val (.bool false)], none⟩])
 (.ret)))
def F_hedgerowref01_Right : IFun := ⟨81, [.slot 2], b_hedgerowref01_Right, 8, 0, nofn⟩
theorem c_hedgerowref01_Right : cFun Tryz.prog [1048577, 1048579, 2097221] 0 f_hedgerowref01_Right = some F_hedgerowref01_Right := by kernel_rfl

def b_strings_asciiSet_contains : ICode :=
 .seq
 (.region [
 ⟨(some 4), none, .id, [.val (.bool false)], none⟩])
 (.seq
 (.region [
 ⟨(some 5), none, .id, [.slot 0], none⟩,
 ⟨(some 6), none, .id, [.slot 1], none⟩,
 ⟨(some 7), none, .nilchk, [.slot 5], none⟩,
 ⟨(some 8), none, .ixaddrA 256 1, [.slot 7, .slot 6], none⟩,
 ⟨(some 9), none, .load 1 false, [.slot 8], none⟩,
 ⟨(some 4), none, .id, [.slot 9], none⟩])
 (.ret))
def F_strings_asciiSet_contains : IFun := ⟨10, [.slot 4], b_strings_asciiSet_contains, 8, 0, nofn⟩
theorem c_strings_asciiSet_contains : cFun Tryz.prog [] 0 f_strings_asciiSet_contains = some F_strings_asciiSet_contains := by kernel_rfl

def b_unicode_utf8_DecodeRuneInString : ICode :=
 .seq
 (.region [
 ⟨(some 2), none, .id, [.val (.int .i32 0)], none⟩,
 ⟨(some 3), none, .id, [.val (.int .i64 0)], none⟩])
 (.seq
 (.seq
 (.region [
 ⟨(some 4), none, .id, [.slot 0], none⟩,
 ⟨(some 5), none, .bin .neq, [.slot 4, .val (.str ⟨#[]⟩)], none⟩,
 ⟨(some 6), none, .id, [.slot 5], none⟩,
 ⟨(some 7), (some (6, true)), .id, [.slot 0], none⟩,
 ⟨(some 8), (some (6, true)), .ixstr, [.slot 7, .val (.int .i64 0)], none⟩,
 ⟨(some 9), (some (6, true)), .bin .lss, [.slot 8, .val (.int .u8 128)], none⟩,
 ⟨(some 10), none, .pick, [.slot 6, .slot 9, .val (.bool false)], none⟩])
 (.cond (.slot 10)
 (.seq
 (.region [
 ⟨(some 11), none, .id, [.slot 0], none⟩,
 ⟨(some 12), none, .ixstr, [.slot 11, .val (.int .i64 0)], none⟩,
 ⟨(some 13), none, .conv .i32, [.slot 12], none⟩,
 ⟨(some 2), none, .id, [.slot 13], none⟩,
 ⟨(some 3), none, .id, [.val (.int .i64 1)], none⟩])
 (.ret))
 (.region [
 ⟨(some 15), none, .id, [.slot 0], none⟩,
 ⟨(some 16), none, .call f_unicode_utf8_decodeRuneInStringSlow, [.slot 15], none⟩,
 ⟨(some 14), none, .id, [.slot 16], none⟩,
 ⟨(some 17), none, .extract 0, [.slot 14], none⟩,
 ⟨(some 18), none, .extract 1, [.slot 14], none⟩,
 ⟨(some 2), none, .id, [.slot 17], none⟩,
 ⟨(some 3), none, .id, [.slot 18], none⟩])))
 (.ret))
def F_unicode_utf8_DecodeRuneInString : IFun := ⟨19, [.slot 2, .slot 3], b_unicode_utf8_DecodeRuneInString, 8, 0, nofn⟩
theorem c_unicode_utf8_DecodeRuneInString : cFun Tryz.prog [] 0 f_unicode_utf8_DecodeRuneInString = some F_unicode_utf8_DecodeRuneInString := by kernel_rfl

def b_strings_ContainsRune : ICode :=
 .seq
 (.region [
 ⟨(some 4), none, .id, [.val (.bool false)], none⟩])
 (.seq
 (.region [
 ⟨(some 5), none, .id, [.slot 0], none⟩,
 ⟨(some 6), none, .id, [.slot 1], none⟩,
 ⟨(some 7), none, .call f_strings_IndexRune, [.slot 5, .slot 6], none⟩,
 ⟨(some 8), none, .bin .geq, [.slot 7, .val (.int .i64 0)], none⟩,
 ⟨(some 4), none, .id, [.slot 8], none⟩])
 (.ret))
def F_strings_ContainsRune : IFun := ⟨9, [.slot 4], b_strings_ContainsRune, 8, 0, nofn⟩
theorem c_strings_ContainsRune : cFun Tryz.prog [] 0 f_strings_ContainsRune = some F_strings_ContainsRune := by kernel_rfl

def L0_lex_while : ICode :=
 .seq
 (.region [
 ⟨(some 9), none, .bin .lss, [.slot 8, .slot 7], none⟩])
 (.seq
 (.cond (.slot 9)
 (.skip)
 (.exit 0))
 (.seq
 (.block 1
 (.seq
 (.region [
 ⟨(some 10), none, .id, [.slot 8], none⟩,
 ⟨(some 5), none, .id, [.slot 10], none⟩])
 (.seq
 (.region [
 ⟨(some 11), none, .id, [.slot 1], none⟩,
 ⟨(some 12), none, .id, [.slot 0], none⟩,
 ⟨(some 13), none, .id, [.slot 5], none⟩,
 ⟨(some 14), none, .ixstr, [.slot 12, .slot 13], none⟩,
 ⟨(some 15), none, .callv, [.slot 11, .slot 14], none⟩,
 ⟨(some 16), none, .un .not, [.slot 15], none⟩])
 (.cond (.slot 16)
 (.seq
 (.region [
 ⟨(some 17), none, .id, [.slot 5], none⟩,
 ⟨(some 4), none, .id, [.slot 17], none⟩])
 (.ret))
 (.skip)))))
 (.region [
 ⟨(some 18), none, .bin .add, [.slot 8, .val (.int .i64 1)], none⟩,
 ⟨(some 8), none, .id, [.slot 18], none⟩])))
def b_lex_while : ICode :=
 .seq
 (.region [
 ⟨(some 4), none, .id, [.val (.int .i64 0)], none⟩])
 (.seq
 (.seq
 (.region [
 ⟨(some 6), none, .id, [.slot 0], none⟩,
 ⟨(some 7), none, .lenstr, [.slot 6], none⟩,
 ⟨(some 8), none, .id, [.val (.int .i64 0)], none⟩])
 (.block 0
 (.loop L0_lex_while)))
 (.seq
 (.region [
 ⟨(some 19), none, .id, [.slot 0], none⟩,
 ⟨(some 20), none, .lenstr, [.slot 19], none⟩,
 ⟨(some 4), none, .id, [.slot 20], none⟩])
 (.ret)))
def F_lex_while : IFun := ⟨21, [.slot 4], b_lex_while, 8, 0, nofn⟩
theorem c_lex_while : cFun Tryz.prog [] 0 f_lex_while = some F_lex_while := by kernel_rfl

def b_lex_inner : ICode :=
 .seq
 (.region [
 ⟨(some 2), none, .id, [.val (.bool false)], none⟩])
 (.seq
 (.region [
 ⟨(some 3), none, .id, [.slot 0], none⟩,
 ⟨(some 4), none, .call f_lex_letter, [.slot 3], none⟩,
 ⟨(some 5), none, .id, [.slot 4], none⟩,
 ⟨(some 6), (some (5, false)), .id, [.slot 0], none⟩,
 ⟨(some 7), (some (5, false)), .call f_lex_digit, [.slot 6], none⟩,
 ⟨(some 8), none, .pick, [.slot 5, .val (.bool true), .slot 7], none⟩,
 ⟨(some 9), none, .id, [.slot 8], none⟩,
 ⟨(some 10), (some (9, false)), .id, [.slot 0], none⟩,
 ⟨(some 11), (some (9, false)), .bin .eql, [.slot 10, .val (.int .u8 95)], none⟩,
 ⟨(some 12), none, .pick, [.slot 9, .val (.bool true), .slot 11], none⟩,
 ⟨(some 2), none, .id, [.slot 12], none⟩])
 (.ret))
def F_lex_inner : IFun := ⟨13, [.slot 2], b_lex_inner, 8, 0, nofn⟩
theorem c_lex_inner : cFun Tryz.prog [] 0 f_lex_inner = some F_lex_inner := by kernel_rfl

def F_strconv_Atoi : IFun := ⟨8, [], .trap, 108, 13, nofn⟩

def b_value_Parse : ICode :=
 .seq
 (.region [
 ⟨(some 2), none, .allocL [(.int .i64 0), (.int .i64 0), (.str ⟨#[]⟩)], [], none⟩,
 ⟨(some 3), none, .id, [.val (.bool false)], none⟩])
 (.seq
 (.region [
 ⟨(some 5), none, .id, [.slot 0], none⟩,
 ⟨(some 6), none, .call f_value_guess, [.slot 5], none⟩,
 ⟨(some 4), none, .allocL [(.int .i64 0), (.int .i64 0), (.str ⟨#[]⟩)], [], none⟩,
 ⟨none, none, .store 3, [.slot 4, .slot 6], none⟩])
 (.seq
 (.seq
 (.region [
 ⟨(some 7), none, .id, [.slot 0], none⟩,
 ⟨(some 8), none, .bin .eql, [.slot 7, .val (.str ⟨#[]⟩)], none⟩,
 ⟨(some 9), none, .id, [.slot 8], none⟩,
 ⟨(some 10), (some (9, false)), .load 3 true, [.slot 4], none⟩,
 ⟨(some 11), (some (9, false)), .call f_value_String, [.slot 10], none⟩,
 ⟨(some 12), (some (9, false)), .id, [.slot 0], none⟩,
 ⟨(some 13), (some (9, false)), .bin .neq, [.slot 11, .slot 12], none⟩,
 ⟨(some 14), none, .pick, [.slot 9, .val (.bool true), .slot 13], none⟩])
 (.cond (.slot 14)
 (.seq
 (.region [
 ⟨(some 15), none, .build [(.int .i64 0), (.int .i64 0), (.str ⟨#[]⟩)] [], [], none⟩,
 ⟨none, none, .store 3, [.slot 2, .slot 15], none⟩,
 ⟨(some 3), none, .id, [.val (.bool false)], none⟩])
 (.ret))
 (.skip)))
 (.seq
 (.region [
 ⟨(some 16), none, .load 3 true, [.slot 4], none⟩,
 ⟨none, none, .store 3, [.slot 2, .slot 16], none⟩,
 ⟨(some 3), none, .id, [.val (.bool true)], none⟩])
 (.ret))))
def F_value_Parse : IFun := ⟨17, [.cell 2 3 true, .slot 3], b_value_Parse, 8, 0, nofn⟩
theorem c_value_Parse : cFun Tryz.prog [1048578, 1048580] 0 f_value_Parse = some F_value_Parse := by kernel_rfl

def b_strings_HasPrefix : ICode :=
 .seq
 (.region [
 ⟨(some 4), none, .id, [.val (.bool false)], none⟩])
 (.seq
 (.region [
 ⟨(some 5), none, .id, [.slot 0], none⟩,
 ⟨(some 6), none, .id, [.slot 1], none⟩,
 ⟨(some 7), none, .call f_stringslite_HasPrefix, [.slot 5, .slot 6], none⟩,
 ⟨(some 4), none, .id, [.slot 7], none⟩])
 (.ret))
def F_strings_HasPrefix : IFun := ⟨8, [.slot 4], b_strings_HasPrefix, 8, 0, nofn⟩
theorem c_strings_HasPrefix : cFun Tryz.prog [] 0 f_strings_HasPrefix = some F_strings_HasPrefix := by kernel_rfl

def b_value_letter : ICode :=
 .seq
 (.region [
 ⟨(some 2), none, .id, [.val (.bool false)], none⟩])
 (.seq
 (.region [
 ⟨(some 3), none, .id, [.slot 0], none⟩,
 ⟨(some 4), none, .bin .geq, [.slot 3, .val (.int .u8 97)], none⟩,
 ⟨(some 5), none, .id, [.slot 4], none⟩,
 ⟨(some 6), (some (5, true)), .id, [.slot 0], none⟩,
 ⟨(some 7), (some (5, true)), .bin .leq, [.slot 6, .val (.int .u8 122)], none⟩,
 ⟨(some 8), none, .pick, [.slot 5, .slot 7, .val (.bool false)], none⟩,
 ⟨(some 9), none, .id, [.slot 8], none⟩,
 ⟨(some 10), (some (9, false)), .id, [.slot 0], none⟩,
 ⟨(some 11), (some (9, false)), .bin .geq, [.slot 10, .val (.int .u8 65)], none⟩,
 ⟨(some 12), (some (9, false)), .id, [.slot 11], none⟩,
 ⟨(some 13), (some (12, true)), .id, [.slot 0], none⟩,
 ⟨(some 14), (some (12, true)), .bin .leq, [.slot 13, .val (.int .u8 90)], none⟩,
 ⟨(some 15), (some (9, false)), .pick, [.slot 12, .slot 14, .val (.bool false)], none⟩,
 ⟨(some 16), none, .pick, [.slot 9, .val (.bool true), .slot 15], none⟩,
 ⟨(some 2), none, .id, [.slot 16], none⟩])
 (.ret))
def F_value_letter : IFun := ⟨17, [.slot 2], b_value_letter, 8, 0, nofn⟩
theorem c_value_letter : cFun Tryz.prog [] 0 f_value_letter = some F_value_letter := by kernel_rfl

def b_value_inner : ICode :=
 .seq
 (.region [
 ⟨(some 2), none, .id, [.val (.bool false)], none⟩])
 (.seq
 (.region [
 ⟨(some 3), none, .id, [.slot 0], none⟩,
 ⟨(some 4), none, .call f_value_letter, [.slot 3], none⟩,
 ⟨(some 5), none, .id, [.slot 4], none⟩,
 ⟨(some 6), (some (5, false)), .id, [.slot 0], none⟩,
 ⟨(some 7), (some (5, false)), .bin .geq, [.slot 6, .val (.int .u8 48)], none⟩,
 ⟨(some 8), (some (5, false)), .id, [.slot 7], none⟩,
 ⟨(some 9), (some (8, true)), .id, [.slot 0], none⟩,
 ⟨(some 10), (some (8, true)), .bin .leq, [.slot 9, .val (.int .u8 57)], none⟩,
 ⟨(some 11), (some (5, false)), .pick, [.slot 8, .slot 10, .val (.bool false)], none⟩,
 ⟨(some 12), none, .pick, [.slot 5, .val (.bool true), .slot 11], none⟩,
 ⟨(some 13), none, .id, [.slot 12], none⟩,
 ⟨(some 14), (some (13, false)), .id, [.slot 0], none⟩,
 ⟨(some 15), (some (13, false)), .bin .eql, [.slot 14, .val (.int .u8 95)], none⟩,
 ⟨(some 16), none, .pick, [.slot 13, .val (.bool true), .slot 15], none⟩,
 ⟨(some 2), none, .id, [.slot 16], none⟩])
 (.ret))
def F_value_inner : IFun := ⟨17, [.slot 2], b_value_inner, 8, 0, nofn⟩
theorem c_value_inner : cFun Tryz.prog [] 0 f_value_inner = some F_value_inner := by kernel_rfl

def L0_slices_Indexstringstring : ICode :=
 .seq
 (.region [
 ⟨(some 9), none, .bin .lss, [.slot 8, .slot 7], none⟩])
 (.seq
 (.cond (.slot 9)
 (.skip)
 (.exit 0))
 (.seq
 (.block 1
 (.seq
 (.region [
 ⟨(some 10), none, .id, [.slot 8], none⟩,
 ⟨(some 5), none, .id, [.slot 10], none⟩])
 (.seq
 (.region [
 ⟨(some 11), none, .id, [.slot 1], none⟩,
 ⟨(some 12), none, .id, [.slot 0], none⟩,
 ⟨(some 13), none, .id, [.slot 5], none⟩,
 ⟨(some 14), none, .ixaddr 1, [.slot 12, .slot 13], none⟩,
 ⟨(some 15), none, .load 1 false, [.slot 14], none⟩,
 ⟨(some 16), none, .bin .eql, [.slot 11, .slot 15], none⟩])
 (.cond (.slot 16)
 (.seq
 (.region [
 ⟨(some 17), none, .id, [.slot 5], none⟩,
 ⟨(some 4), none, .id, [.slot 17], none⟩])
 (.ret))
 (.skip)))))
 (.region [
 ⟨(some 18), none, .bin .add, [.slot 8, .val (.int .i64 1)], none⟩,
 ⟨(some 8), none, .id, [.slot 18], none⟩])))
def b_slices_Indexstringstring : ICode :=
 .seq
 (.region [
 ⟨(some 4), none, .id, [.val (.int .i64 0)], none⟩])
 (.seq
 (.seq
 (.region [
 ⟨(some 6), none, .id, [.slot 0], none⟩,
 ⟨(some 7), none, .lensl, [.slot 6], none⟩,
 ⟨(some 8), none, .id, [.val (.int .i64 0)], none⟩])
 (.block 0
 (.loop L0_slices_Indexstringstring)))
 (.seq
 (.region [
 ⟨(some 4), none, .id, [.val (.int .i64 (-1))], none⟩])
 (.ret)))
def F_slices_Indexstringstring : IFun := ⟨19, [.slot 4], b_slices_Indexstringstring, 8, 0, nofn⟩
theorem c_slices_Indexstringstring : cFun Tryz.prog [] 0 f_slices_Indexstringstring = some F_slices_Indexstringstring := by kernel_rfl

def b_strconv_FormatBool : ICode :=
 .seq
 (.region [
 ⟨(some 2), none, .id, [.val (.str ⟨#[]⟩)], none⟩])
 (.seq
 (.region [
 ⟨(some 3), none, .id, [.slot 0], none⟩,
 ⟨(some 4), none, .call f_strconv_FormatBool_77, [.slot 3], none⟩,
 ⟨(some 2), none, .id, [.slot 4], none⟩])
 (.ret))
def F_strconv_FormatBool : IFun := ⟨5, [.slot 2], b_strconv_FormatBool, 8, 0, nofn⟩
theorem c_strconv_FormatBool : cFun Tryz.prog [] 0 f_strconv_FormatBool = some F_strconv_FormatBool := by kernel_rfl

def L0_value_quoted : ICode :=
 .seq
 (.region [
 ⟨(some 11), none, .bin .lss, [.slot 10, .slot 9], none⟩])
 (.seq
 (.cond (.slot 11)
 (.skip)
 (.exit 0))
 (.seq
 (.block 1
 (.seq
 (.region [
 ⟨(some 12), none, .ixaddr 1, [.slot 8, .slot 10], none⟩,
 ⟨(some 13), none, .load 1 false, [.slot 12], none⟩,
 ⟨(some 5), none, .id, [.slot 13], none⟩])
 (.seq
 (.seq
 (.region [
 ⟨(some 14), none, .id, [.slot 5], none⟩,
 ⟨(some 15), none, .bin .eql, [.slot 14, .val (.int .u8 39)], none⟩,
 ⟨(some 16), none, .id, [.slot 15], none⟩,
 ⟨(some 17), (some (16, false)), .id, [.slot 5], none⟩,
 ⟨(some 18), (some (16, false)), .bin .eql, [.slot 17, .val (.int .u8 92)], none⟩,
 ⟨(some 19), none, .pick, [.slot 16, .val (.bool true), .slot 18], none⟩])
 (.cond (.slot 19)
 (.region [
 ⟨(some 20), none, .call f_strings_Builder_WriteByte, [.slot 3, .val (.int .u8 92)], none⟩])
 (.skip)))
 (.region [
 ⟨(some 21), none, .id, [.slot 5], none⟩,
 ⟨(some 22), none, .call f_strings_Builder_WriteByte, [.slot 3, .slot 21], none⟩]))))
 (.region [
 ⟨(some 23), none, .bin .add, [.slot 10, .val (.int .i64 1)], none⟩,
 ⟨(some 10), none, .id, [.slot 23], none⟩])))
def b_value_quoted : ICode :=
 .seq
 (.region [
 ⟨(some 2), none, .id, [.val (.str ⟨#[]⟩)], none⟩])
 (.seq
 (.region [
 ⟨(some 3), none, .allocH 60 [.nilptr, .nilsl], [], none⟩])
 (.seq
 (.region [
 ⟨(some 6), none, .call f_strings_Builder_WriteByte, [.slot 3, .val (.int .u8 39)], none⟩])
 (.seq
 (.seq
 (.region [
 ⟨(some 7), none, .id, [.slot 0], none⟩,
 ⟨(some 8), none, .s2b, [.slot 7], none⟩,
 ⟨(some 9), none, .lensl, [.slot 8], none⟩,
 ⟨(some 10), none, .id, [.val (.int .i64 0)], none⟩])
 (.block 0
 (.loop L0_value_quoted)))
 (.seq
 (.region [
 ⟨(some 24), none, .call f_strings_Builder_WriteByte, [.slot 3, .val (.int .u8 39)], none⟩])
 (.seq
 (.region [
 ⟨(some 25), none, .call f_strings_Builder_String, [.slot 3], none⟩,
 ⟨(some 2), none, .id, [.slot 25], none⟩])
 (.ret))))))
def F_value_quoted : IFun := ⟨26, [.slot 2], b_value_quoted, 8, 1, nofn⟩
theorem c_value_quoted : cFun Tryz.prog [3, 2097190] 1 f_value_quoted = some F_value_quoted := by kernel_rfl

def L0_value_plain : ICode :=
 .seq
 (.region [
 ⟨(some 7), none, .next, [.slot 6], none⟩,
 ⟨(some 8), none, .extract 0, [.slot 7], none⟩])
 (.seq
 (.cond (.slot 8)
 (.skip)
 (.exit 0))
 (.block 1
 (.seq
 (.region [
 ⟨(some 9), none, .extract 2, [.slot 7], none⟩,
 ⟨(some 4), none, .id, [.slot 9], none⟩])
 (.seq
 (.region [
 ⟨(some 10), none, .id, [.slot 4], none⟩,
 ⟨(some 11), none, .bin .lss, [.slot 10, .val (.int .i32 32)], none⟩,
 ⟨(some 12), none, .id, [.slot 11], none⟩,
 ⟨(some 13), (some (12, false)), .id, [.slot 4], none⟩,
 ⟨(some 14), (some (12, false)), .bin .gtr, [.slot 13, .val (.int .i32 126)], none⟩,
 ⟨(some 15), none, .pick, [.slot 12, .val (.bool true), .slot 14], none⟩])
 (.cond (.slot 15)
 (.seq
 (.region [
 ⟨(some 2), none, .id, [.val (.bool false)], none⟩])
 (.ret))
 (.skip))))))
def b_value_plain : ICode :=
 .seq
 (.region [
 ⟨(some 2), none, .id, [.val (.bool false)], none⟩])
 (.seq
 (.seq
 (.region [
 ⟨(some 5), none, .id, [.slot 0], none⟩,
 ⟨(some 6), none, .range, [.slot 5], none⟩])
 (.block 0
 (.loop L0_value_plain)))
 (.seq
 (.region [
 ⟨(some 16), none, .id, [.slot 0], none⟩,
 ⟨(some 17), none, .lenstr, [.slot 16], none⟩,
 ⟨(some 18), none, .bin .leq, [.slot 17, .val (.int .i64 64)], none⟩,
 ⟨(some 2), none, .id, [.slot 18], none⟩])
 (.ret)))
def F_value_plain : IFun := ⟨19, [.slot 2], b_value_plain, 8, 0, nofn⟩
theorem c_value_plain : cFun Tryz.prog [] 0 f_value_plain = some F_value_plain := by kernel_rfl

def b_value_Link : ICode :=
 .seq
 (.region [
 ⟨(some 1), none, .boxL, [.slot 0], none⟩,
 ⟨(some 2), none, .allocL [(.str ⟨#[]⟩), (.str ⟨#[]⟩), (.str ⟨#[]⟩)], [], none⟩,
 ⟨(some 3), none, .id, [.val (.bool false)], none⟩])
 (.seq
 (.region [
 ⟨(some 5), none, .faddr 2, [.slot 1], none⟩,
 ⟨(some 6), none, .load 1 false, [.slot 5], none⟩,
 ⟨(some 7), none, .call f_strings_Split, [.slot 6, .val (.str ⟨#[62]⟩)], none⟩,
 ⟨(some 4), none, .id, [.slot 7], none⟩])
 (.seq
 (.seq
 (.region [
 ⟨(some 8), none, .faddr 0, [.slot 1], none⟩,
 ⟨(some 9), none, .load 1 false, [.slot 8], none⟩,
 ⟨(some 10), none, .bin .neq, [.slot 9, .val (.int .i64 5)], none⟩,
 ⟨(some 11), none, .id, [.slot 10], none⟩,
 ⟨(some 12), (some (11, false)), .faddr 1, [.slot 1], none⟩,
 ⟨(some 13), (some (11, false)), .load 1 false, [.slot 12], none⟩,
 ⟨(some 14), (some (11, false)), .bin .neq, [.slot 13, .val (.int .i64 0)], none⟩,
 ⟨(some 15), none, .pick, [.slot 11, .val (.bool true), .slot 14], none⟩,
 ⟨(some 16), none, .id, [.slot 15], none⟩,
 ⟨(some 17), (some (16, false)), .id, [.slot 4], none⟩,
 ⟨(some 18), (some (16, false)), .lensl, [.slot 17], none⟩,
 ⟨(some 19), (some (16, false)), .bin .neq, [.slot 18, .val (.int .i64 3)], none⟩,
 ⟨(some 20), none, .pick, [.slot 16, .val (.bool true), .slot 19], none⟩,
 ⟨(some 21), none, .id, [.slot 20], none⟩,
 ⟨(some 22), (some (21, false)), .id, [.slot 4], none⟩,
 ⟨(some 23), (some (21, false)), .call f_value_names, [.slot 22], none⟩,
 ⟨(some 24), (some (21, false)), .un .not, [.slot 23], none⟩,
 ⟨(some 25), none, .pick, [.slot 21, .val (.bool true), .slot 24], none⟩])
 (.cond (.slot 25)
 (.seq
 (.region [
 ⟨(some 26), none, .build [(.str ⟨#[]⟩), (.str ⟨#[]⟩), (.str ⟨#[]⟩)] [], [], none⟩,
 ⟨none, none, .store 3, [.slot 2, .slot 26], none⟩,
 ⟨(some 3), none, .id, [.val (.bool false)], none⟩])
 (.ret))
 (.skip)))
 (.seq
 (.region [
 ⟨(some 27), none, .id, [.slot 4], none⟩,
 ⟨(some 28), none, .ixaddr 1, [.slot 27, .val (.int .i64 0)], none⟩,
 ⟨(some 29), none, .load 1 false, [.slot 28], (some (.el))⟩,
 ⟨(some 30), none, .id, [.slot 4], none⟩,
 ⟨(some 31), none, .ixaddr 1, [.slot 30, .val (.int .i64 1)], none⟩,
 ⟨(some 32), none, .load 1 false, [.slot 31], (some (.el))⟩,
 ⟨(some 33), none, .id, [.slot 4], none⟩,
 ⟨(some 34), none, .ixaddr 1, [.slot 33, .val (.int .i64 2)], none⟩,
 ⟨(some 35), none, .load 1 false, [.slot 34], (some (.el))⟩,
 ⟨(some 36), none, .build [(.str ⟨#[]⟩), (.str ⟨#[]⟩), (.str ⟨#[]⟩)] [(0, 1), (2, 1), (1, 1)], [.slot 29, .slot 32, .slot 35], none⟩,
 ⟨none, none, .store 3, [.slot 2, .slot 36], (some (.loc 2))⟩,
 ⟨(some 3), none, .id, [.val (.bool true)], none⟩])
 (.ret))))
def F_value_Link : IFun := ⟨37, [.cell 2 3 true, .slot 3], b_value_Link, 8, 0, nofn⟩
theorem c_value_Link : cFun Tryz.prog [1048577, 1048578, 2097231] 0 f_value_Link = some F_value_Link := by kernel_rfl

def F_strings_Builder_copyCheck : IFun := ⟨8, [], .trap, 60, 20, nofn⟩

def L0_hedgerowref01_number : ICode :=
 .seq
 (.seq
 (.region [
 ⟨(some 11), none, .id, [.slot 5], none⟩,
 ⟨(some 12), none, .id, [.slot 0], none⟩,
 ⟨(some 13), none, .lenstr, [.slot 12], none⟩,
 ⟨(some 14), none, .bin .lss, [.slot 11, .slot 13], none⟩,
 ⟨(some 15), none, .id, [.slot 14], none⟩,
 ⟨(some 16), (some (15, true)), .id, [.slot 5], none⟩,
 ⟨(some 17), (some (15, true)), .bin .lss, [.slot 16, .val (.int .i64 15)], none⟩,
 ⟨(some 18), none, .pick, [.slot 15, .slot 17, .val (.bool false)], none⟩])
 (.cond (.slot 18)
 (.skip)
 (.exit 0)))
 (.seq
 (.block 1
 (.region [
 ⟨(some 21), none, .id, [.slot 3], none⟩,
 ⟨(some 22), none, .bin .mul, [.slot 21, .val (.int .i64 10)], none⟩,
 ⟨(some 23), none, .id, [.slot 0], none⟩,
 ⟨(some 24), none, .id, [.slot 5], none⟩,
 ⟨(some 25), none, .ixstr, [.slot 23, .slot 24], none⟩,
 ⟨(some 26), none, .conv .i64, [.slot 25], none⟩,
 ⟨(some 27), none, .bin .add, [.slot 22, .slot 26], none⟩,
 ⟨(some 28), none, .bin .sub, [.slot 27, .val (.int .i64 48)], none⟩,
 ⟨(some 3), none, .id, [.slot 28], none⟩]))
 (.region [
 ⟨(some 19), none, .id, [.slot 5], none⟩,
 ⟨(some 20), none, .bin .add, [.slot 19, .val (.int .i64 1)], none⟩,
 ⟨(some 5), none, .id, [.slot 20], none⟩]))
def b_hedgerowref01_number : ICode :=
 .seq
 (.region [
 ⟨(some 2), none, .id, [.val (.int .i64 0)], none⟩])
 (.seq
 (.region [
 ⟨(some 3), none, .id, [.val (.int .i64 0)], none⟩,
 ⟨(some 4), none, .id, [.val (.int .i64 1)], none⟩])
 (.seq
 (.seq
 (.region [
 ⟨(some 6), none, .id, [.slot 0], none⟩,
 ⟨(some 7), none, .ixstr, [.slot 6, .val (.int .i64 0)], none⟩,
 ⟨(some 8), none, .bin .eql, [.slot 7, .val (.int .u8 45)], none⟩])
 (.cond (.slot 8)
 (.seq
 (.region [
 ⟨(some 4), none, .id, [.val (.int .i64 (-1))], none⟩])
 (.region [
 ⟨(some 9), none, .id, [.slot 0], none⟩,
 ⟨(some 10), none, .slstr true false, [.slot 9, .val (.int .i64 1)], none⟩,
 ⟨(some 0), none, .id, [.slot 10], none⟩]))
 (.skip)))
 (.seq
 (.seq
 (.region [
 ⟨(some 5), none, .id, [.val (.int .i64 0)], none⟩])
 (.block 0
 (.loop L0_hedgerowref01_number)))
 (.seq
 (.region [
 ⟨(some 29), none, .id, [.slot 3], none⟩,
 ⟨(some 30), none, .id, [.slot 4], none⟩,
 ⟨(some 31), none, .bin .mul, [.slot 29, .slot 30], none⟩,
 ⟨(some 2), none, .id, [.slot 31], none⟩])
 (.ret)))))
def F_hedgerowref01_number : IFun := ⟨32, [.slot 2], b_hedgerowref01_number, 8, 0, nofn⟩
theorem c_hedgerowref01_number : cFun Tryz.prog [] 0 f_hedgerowref01_number = some F_hedgerowref01_number := by kernel_rfl

def L0_hedgerowref01_plain : ICode :=
 .seq
 (.seq
 (.region [
 ⟨(some 4), none, .id, [.slot 3], none⟩,
 ⟨(some 5), none, .id, [.slot 0], none⟩,
 ⟨(some 6), none, .lenstr, [.slot 5], none⟩,
 ⟨(some 7), none, .bin .lss, [.slot 4, .slot 6], none⟩])
 (.cond (.slot 7)
 (.skip)
 (.exit 0)))
 (.seq
 (.block 1
 (.seq
 (.region [
 ⟨(some 10), none, .id, [.slot 0], none⟩,
 ⟨(some 11), none, .id, [.slot 3], none⟩,
 ⟨(some 12), none, .ixstr, [.slot 10, .slot 11], none⟩,
 ⟨(some 13), none, .bin .lss, [.slot 12, .val (.int .u8 32)], none⟩,
 ⟨(some 14), none, .id, [.slot 13], none⟩,
 ⟨(some 15), (some (14, false)), .id, [.slot 0], none⟩,
 ⟨(some 16), (some (14, false)), .id, [.slot 3], none⟩,
 ⟨(some 17), (some (14, false)), .ixstr, [.slot 15, .slot 16], none⟩,
 ⟨(some 18), (some (14, false)), .bin .gtr, [.slot 17, .val (.int .u8 126)], none⟩,
 ⟨(some 19), none, .pick, [.slot 14, .val (.bool true), .slot 18], none⟩])
 (.cond (.slot 19)
 (.seq
 (.region [
 ⟨(some 2), none, .id, [.val (.bool false)], none⟩])
 (.ret))
 (.skip))))
 (.region [
 ⟨(some 8), none, .id, [.slot 3], none⟩,
 ⟨(some 9), none, .bin .add, [.slot 8, .val (.int .i64 1)], none⟩,
 ⟨(some 3), none, .id, [.slot 9], none⟩]))
def b_hedgerowref01_plain : ICode :=
 .seq
 (.region [
 ⟨(some 2), none, .id, [.val (.bool false)], none⟩])
 (.seq
 (.seq
 (.region [
 ⟨(some 3), none, .id, [.val (.int .i64 0)], none⟩])
 (.block 0
 (.loop L0_hedgerowref01_plain)))
 (.seq
 (.region [
 ⟨(some 20), none, .id, [.slot 0], none⟩,
 ⟨(some 21), none, .lenstr, [.slot 20], none⟩,
 ⟨(some 22), none, .bin .leq, [.slot 21, .val (.int .i64 64)], none⟩,
 ⟨(some 2), none, .id, [.slot 22], none⟩])
 (.ret)))
def F_hedgerowref01_plain : IFun := ⟨23, [.slot 2], b_hedgerowref01_plain, 8, 0, nofn⟩
theorem c_hedgerowref01_plain : cFun Tryz.prog [] 0 f_hedgerowref01_plain = some F_hedgerowref01_plain := by kernel_rfl

def b_hedgerowref01_Link : ICode :=
 .seq
 (.region [
 ⟨(some 2), none, .allocL [(.str ⟨#[]⟩), (.str ⟨#[]⟩), (.str ⟨#[]⟩)], [], none⟩,
 ⟨(some 3), none, .id, [.val (.bool false)], none⟩])
 (.seq
 (.seq
 (.region [
 ⟨(some 5), none, .id, [.slot 0], none⟩,
 ⟨(some 6), none, .lenstr, [.slot 5], none⟩,
 ⟨(some 7), none, .bin .gtr, [.slot 6, .val (.int .i64 60)], none⟩])
 (.cond (.slot 7)
 (.seq
 (.region [
 ⟨(some 8), none, .build [(.str ⟨#[]⟩), (.str ⟨#[]⟩), (.str ⟨#[]⟩)] [], [], none⟩,
 ⟨none, none, .store 3, [.slot 2, .slot 8], none⟩,
 ⟨(some 3), none, .id, [.val (.bool false)], none⟩])
 (.ret))
 (.skip)))
 (.seq
 (.region [
 ⟨(some 9), none, .id, [.slot 0], none⟩,
 ⟨(some 10), none, .call f_hedgerowref01_Split, [.slot 9, .val (.int .u8 62)], none⟩,
 ⟨(some 4), none, .id, [.slot 10], none⟩])
 (.seq
 (.seq
 (.region [
 ⟨(some 11), none, .id, [.slot 4], none⟩,
 ⟨(some 12), none, .lensl, [.slot 11], none⟩,
 ⟨(some 13), none, .bin .neq, [.slot 12, .val (.int .i64 3)], none⟩,
 ⟨(some 14), none, .id, [.slot 13], none⟩,
 ⟨(some 15), (some (14, false)), .id, [.slot 4], none⟩,
 ⟨(some 16), (some (14, false)), .ixaddr 1, [.slot 15, .val (.int .i64 0)], none⟩,
 ⟨(some 17), (some (14, false)), .load 1 false, [.slot 16], none⟩,
 ⟨(some 18), (some (14, false)), .call f_hedgerowref01_Name, [.slot 17], none⟩,
 ⟨(some 19), (some (14, false)), .un .not, [.slot 18], none⟩,
 ⟨(some 20), none, .pick, [.slot 14, .val (.bool true), .slot 19], none⟩,
 ⟨(some 21), none, .id, [.slot 20], none⟩,
 ⟨(some 22), (some (21, false)), .id, [.slot 4], none⟩,
 ⟨(some 23), (some (21, false)), .ixaddr 1, [.slot 22, .val (.int .i64 1)], none⟩,
 ⟨(some 24), (some (21, false)), .load 1 false, [.slot 23], none⟩,
 ⟨(some 25), (some (21, false)), .call f_hedgerowref01_Name, [.slot 24], none⟩,
 ⟨(some 26), (some (21, false)), .un .not, [.slot 25], none⟩,
 ⟨(some 27), none, .pick, [.slot 21, .val (.bool true), .slot 26], none⟩,
 ⟨(some 28), none, .id, [.slot 27], none⟩,
 ⟨(some 29), (some (28, false)), .id, [.slot 4], none⟩,
 ⟨(some 30), (some (28, false)), .ixaddr 1, [.slot 29, .val (.int .i64 2)], none⟩,
 ⟨(some 31), (some (28, false)), .load 1 false, [.slot 30], none⟩,
 ⟨(some 32), (some (28, false)), .call f_hedgerowref01_Name, [.slot 31], none⟩,
 ⟨(some 33), (some (28, false)), .un .not, [.slot 32], none⟩,
 ⟨(some 34), none, .pick, [.slot 28, .val (.bool true), .slot 33], none⟩])
 (.cond (.slot 34)
 (.seq
 (.region [
 ⟨(some 35), none, .build [(.str ⟨#[]⟩), (.str ⟨#[]⟩), (.str ⟨#[]⟩)] [], [], none⟩,
 ⟨none, none, .store 3, [.slot 2, .slot 35], none⟩,
 ⟨(some 3), none, .id, [.val (.bool false)], none⟩])
 (.ret))
 (.skip)))
 (.seq
 (.region [
 ⟨(some 36), none, .id, [.slot 4], none⟩,
 ⟨(some 37), none, .ixaddr 1, [.slot 36, .val (.int .i64 0)], none⟩,
 ⟨(some 38), none, .load 1 false, [.slot 37], (some (.heap))⟩,
 ⟨(some 39), none, .id, [.slot 4], none⟩,
 ⟨(some 40), none, .ixaddr 1, [.slot 39, .val (.int .i64 1)], none⟩,
 ⟨(some 41), none, .load 1 false, [.slot 40], (some (.heap))⟩,
 ⟨(some 42), none, .id, [.slot 4], none⟩,
 ⟨(some 43), none, .ixaddr 1, [.slot 42, .val (.int .i64 2)], none⟩,
 ⟨(some 44), none, .load 1 false, [.slot 43], (some (.heap))⟩,
 ⟨(some 45), none, .build [(.str ⟨#[]⟩), (.str ⟨#[]⟩), (.str ⟨#[]⟩)] [(0, 1), (2, 1), (1, 1)], [.slot 38, .slot 41, .slot 44], none⟩,
 ⟨none, none, .store 3, [.slot 2, .slot 45], (some (.loc 2))⟩,
 ⟨(some 3), none, .id, [.val (.bool true)], none⟩])
 (.ret)))))
def F_hedgerowref01_Link : IFun := ⟨46, [.cell 2 3 true, .slot 3], b_hedgerowref01_Link, 8, 1, nofn⟩
theorem c_hedgerowref01_Link : cFun Tryz.prog [1048578, 3145765, 3145768, 3145771] 1 f_hedgerowref01_Link = some F_hedgerowref01_Link := by kernel_rfl

def b_unicode_utf8_decodeRuneInStringSlow : ICode :=
 .seq
 (.region [
 ⟨(some 2), none, .id, [.val (.int .i32 0)], none⟩,
 ⟨(some 3), none, .id, [.val (.int .i64 0)], none⟩])
 (.seq
 (.region [
 ⟨(some 13), none, .id, [.slot 0], none⟩,
 ⟨(some 14), none, .lenstr, [.slot 13], none⟩,
 ⟨(some 4), none, .id, [.slot 14], none⟩])
 (.seq
 (.seq
 (.region [
 ⟨(some 15), none, .id, [.slot 4], none⟩,
 ⟨(some 16), none, .bin .lss, [.slot 15, .val (.int .i64 1)], none⟩])
 (.cond (.slot 16)
 (.seq
 (.region [
 ⟨(some 2), none, .id, [.val (.int .i32 65533)], none⟩,
 ⟨(some 3), none, .id, [.val (.int .i64 0)], none⟩])
 (.ret))
 (.skip)))
 (.seq
 (.region [
 ⟨(some 17), none, .id, [.slot 0], none⟩,
 ⟨(some 18), none, .ixstr, [.slot 17, .val (.int .i64 0)], none⟩,
 ⟨(some 5), none, .id, [.slot 18], none⟩])
 (.seq
 (.region [
 ⟨(some 19), none, .id, [.slot 5], none⟩,
 ⟨(some 20), none, .ixaddrA 256 1, [.val (.ptr 0 0), .slot 19], none⟩,
 ⟨(some 21), none, .load 1 false, [.slot 20], none⟩,
 ⟨(some 6), none, .id, [.slot 21], none⟩])
 (.seq
 (.seq
 (.region [
 ⟨(some 22), none, .id, [.slot 6], none⟩,
 ⟨(some 23), none, .bin .geq, [.slot 22, .val (.int .u8 240)], none⟩])
 (.cond (.slot 23)
 (.seq
 (.region [
 ⟨(some 24), none, .id, [.slot 6], none⟩,
 ⟨(some 25), none, .conv .i32, [.slot 24], none⟩,
 ⟨(some 26), none, .bin .shl, [.slot 25, .val (.int .u64 31)], none⟩,
 ⟨(some 27), none, .bin .shr, [.slot 26, .val (.int .u64 31)], none⟩,
 ⟨(some 7), none, .id, [.slot 27], none⟩])
 (.seq
 (.region [
 ⟨(some 28), none, .id, [.slot 0], none⟩,
 ⟨(some 29), none, .ixstr, [.slot 28, .val (.int .i64 0)], none⟩,
 ⟨(some 30), none, .conv .i32, [.slot 29], none⟩,
 ⟨(some 31), none, .id, [.slot 7], none⟩,
 ⟨(some 32), none, .bin .andNot, [.slot 30, .slot 31], none⟩,
 ⟨(some 33), none, .id, [.slot 7], none⟩,
 ⟨(some 34), none, .bin .and, [.val (.int .i32 65533), .slot 33], none⟩,
 ⟨(some 35), none, .bin .or, [.slot 32, .slot 34], none⟩,
 ⟨(some 2), none, .id, [.slot 35], none⟩,
 ⟨(some 3), none, .id, [.val (.int .i64 1)], none⟩])
 (.ret)))
 (.skip)))
 (.seq
 (.region [
 ⟨(some 36), none, .id, [.slot 6], none⟩,
 ⟨(some 37), none, .bin .and, [.slot 36, .val (.int .u8 7)], none⟩,
 ⟨(some 38), none, .conv .i64, [.slot 37], none⟩,
 ⟨(some 8), none, .id, [.slot 38], none⟩])
 (.seq
 (.region [
 ⟨(some 39), none, .id, [.slot 6], none⟩,
 ⟨(some 40), none, .bin .shr, [.slot 39, .val (.int .u64 4)], none⟩,
 ⟨(some 41), none, .ixaddrA 16 2, [.val (.ptr 1 0), .slot 40], none⟩,
 ⟨(some 42), none, .load 2 true, [.slot 41], none⟩,
 ⟨(some 9), none, .allocL [(.int .u8 0), (.int .u8 0)], [], none⟩,
 ⟨none, none, .store 2, [.slot 9, .slot 42], none⟩])
 (.seq
 (.seq
 (.region [
 ⟨(some 43), none, .id, [.slot 4], none⟩,
 ⟨(some 44), none, .id, [.slot 8], none⟩,
 ⟨(some 45), none, .bin .lss, [.slot 43, .slot 44], none⟩])
 (.cond (.slot 45)
 (.seq
 (.region [
 ⟨(some 2), none, .id, [.val (.int .i32 65533)], none⟩,
 ⟨(some 3), none, .id, [.val (.int .i64 1)], none⟩])
 (.ret))
 (.skip)))
 (.seq
 (.region [
 ⟨(some 46), none, .id, [.slot 0], none⟩,
 ⟨(some 47), none, .ixstr, [.slot 46, .val (.int .i64 1)], none⟩,
 ⟨(some 10), none, .id, [.slot 47], none⟩])
 (.seq
 (.seq
 (.region [
 ⟨(some 48), none, .id, [.slot 10], none⟩,
 ⟨(some 49), none, .faddr 0, [.slot 9], none⟩,
 ⟨(some 50), none, .load 1 false, [.slot 49], none⟩,
 ⟨(some 51), none, .bin .lss, [.slot 48, .slot 50], none⟩,
 ⟨(some 52), none, .id, [.slot 51], none⟩,
 ⟨(some 53), (some (52, false)), .faddr 1, [.slot 9], none⟩,
 ⟨(some 54), (some (52, false)), .load 1 false, [.slot 53], none⟩,
 ⟨(some 55), (some (52, false)), .id, [.slot 10], none⟩,
 ⟨(some 56), (some (52, false)), .bin .lss, [.slot 54, .slot 55], none⟩,
 ⟨(some 57), none, .pick, [.slot 52, .val (.bool true), .slot 56], none⟩])
 (.cond (.slot 57)
 (.seq
 (.region [
 ⟨(some 2), none, .id, [.val (.int .i32 65533)], none⟩,
 ⟨(some 3), none, .id, [.val (.int .i64 1)], none⟩])
 (.ret))
 (.skip)))
 (.seq
 (.seq
 (.region [
 ⟨(some 58), none, .id, [.slot 8], none⟩,
 ⟨(some 59), none, .bin .leq, [.slot 58, .val (.int .i64 2)], none⟩])
 (.cond (.slot 59)
 (.seq
 (.region [
 ⟨(some 60), none, .id, [.slot 5], none⟩,
 ⟨(some 61), none, .bin .and, [.slot 60, .val (.int .u8 31)], none⟩,
 ⟨(some 62), none, .conv .i32, [.slot 61], none⟩,
 ⟨(some 63), none, .bin .shl, [.slot 62, .val (.int .u64 6)], none⟩,
 ⟨(some 64), none, .id, [.slot 10], none⟩,
 ⟨(some 65), none, .bin .and, [.slot 64, .val (.int .u8 63)], none⟩,
 ⟨(some 66), none, .conv .i32, [.slot 65], none⟩,
 ⟨(some 67), none, .bin .or, [.slot 63, .slot 66], none⟩,
 ⟨(some 2), none, .id, [.slot 67], none⟩,
 ⟨(some 3), none, .id, [.val (.int .i64 2)], none⟩])
 (.ret))
 (.skip)))
 (.seq
 (.region [
 ⟨(some 68), none, .id, [.slot 0], none⟩,
 ⟨(some 69), none, .ixstr, [.slot 68, .val (.int .i64 2)], none⟩,
 ⟨(some 11), none, .id, [.slot 69], none⟩])
 (.seq
 (.seq
 (.region [
 ⟨(some 70), none, .id, [.slot 11], none⟩,
 ⟨(some 71), none, .bin .lss, [.slot 70, .val (.int .u8 128)], none⟩,
 ⟨(some 72), none, .id, [.slot 71], none⟩,
 ⟨(some 73), (some (72, false)), .id, [.slot 11], none⟩,
 ⟨(some 74), (some (72, false)), .bin .lss, [.val (.int .u8 191), .slot 73], none⟩,
 ⟨(some 75), none, .pick, [.slot 72, .val (.bool true), .slot 74], none⟩])
 (.cond (.slot 75)
 (.seq
 (.region [
 ⟨(some 2), none, .id, [.val (.int .i32 65533)], none⟩,
 ⟨(some 3), none, .id, [.val (.int .i64 1)], none⟩])
 (.ret))
 (.skip)))
 (.seq
 (.seq
 (.region [
 ⟨(some 76), none, .id, [.slot 8], none⟩,
 ⟨(some 77), none, .bin .leq, [.slot 76, .val (.int .i64 3)], none⟩])
 (.cond (.slot 77)
 (.seq
 (.region [
 ⟨(some 78), none, .id, [.slot 5], none⟩,
 ⟨(some 79), none, .bin .and, [.slot 78, .val (.int .u8 15)], none⟩,
 ⟨(some 80), none, .conv .i32, [.slot 79], none⟩,
 ⟨(some 81), none, .bin .shl, [.slot 80, .val (.int .u64 12)], none⟩,
 ⟨(some 82), none, .id, [.slot 10], none⟩,
 ⟨(some 83), none, .bin .and, [.slot 82, .val (.int .u8 63)], none⟩,
 ⟨(some 84), none, .conv .i32, [.slot 83], none⟩,
 ⟨(some 85), none, .bin .shl, [.slot 84, .val (.int .u64 6)], none⟩,
 ⟨(some 86), none, .bin .or, [.slot 81, .slot 85], none⟩,
 ⟨(some 87), none, .id, [.slot 11], none⟩,
 ⟨(some 88), none, .bin .and, [.slot 87, .val (.int .u8 63)], none⟩,
 ⟨(some 89), none, .conv .i32, [.slot 88], none⟩,
 ⟨(some 90), none, .bin .or, [.slot 86, .slot 89], none⟩,
 ⟨(some 2), none, .id, [.slot 90], none⟩,
 ⟨(some 3), none, .id, [.val (.int .i64 3)], none⟩])
 (.ret))
 (.skip)))
 (.seq
 (.region [
 ⟨(some 91), none, .id, [.slot 0], none⟩,
 ⟨(some 92), none, .ixstr, [.slot 91, .val (.int .i64 3)], none⟩,
 ⟨(some 12), none, .id, [.slot 92], none⟩])
 (.seq
 (.seq
 (.region [
 ⟨(some 93), none, .id, [.slot 12], none⟩,
 ⟨(some 94), none, .bin .lss, [.slot 93, .val (.int .u8 128)], none⟩,
 ⟨(some 95), none, .id, [.slot 94], none⟩,
 ⟨(some 96), (some (95, false)), .id, [.slot 12], none⟩,
 ⟨(some 97), (some (95, false)), .bin .lss, [.val (.int .u8 191), .slot 96], none⟩,
 ⟨(some 98), none, .pick, [.slot 95, .val (.bool true), .slot 97], none⟩])
 (.cond (.slot 98)
 (.seq
 (.region [
 ⟨(some 2), none, .id, [.val (.int .i32 65533)], none⟩,
 ⟨(some 3), none, .id, [.val (.int .i64 1)], none⟩])
 (.ret))
 (.skip)))
 (.seq
 (.region [
 ⟨(some 99), none, .id, [.slot 5], none⟩,
 ⟨(some 100), none, .bin .and, [.slot 99, .val (.int .u8 7)], none⟩,
 ⟨(some 101), none, .conv .i32, [.slot 100], none⟩,
 ⟨(some 102), none, .bin .shl, [.slot 101, .val (.int .u64 18)], none⟩,
 ⟨(some 103), none, .id, [.slot 10], none⟩,
 ⟨(some 104), none, .bin .and, [.slot 103, .val (.int .u8 63)], none⟩,
 ⟨(some 105), none, .conv .i32, [.slot 104], none⟩,
 ⟨(some 106), none, .bin .shl, [.slot 105, .val (.int .u64 12)], none⟩,
 ⟨(some 107), none, .bin .or, [.slot 102, .slot 106], none⟩,
 ⟨(some 108), none, .id, [.slot 11], none⟩,
 ⟨(some 109), none, .bin .and, [.slot 108, .val (.int .u8 63)], none⟩,
 ⟨(some 110), none, .conv .i32, [.slot 109], none⟩,
 ⟨(some 111), none, .bin .shl, [.slot 110, .val (.int .u64 6)], none⟩,
 ⟨(some 112), none, .bin .or, [.slot 107, .slot 111], none⟩,
 ⟨(some 113), none, .id, [.slot 12], none⟩,
 ⟨(some 114), none, .bin .and, [.slot 113, .val (.int .u8 63)], none⟩,
 ⟨(some 115), none, .conv .i32, [.slot 114], none⟩,
 ⟨(some 116), none, .bin .or, [.slot 112, .slot 115], none⟩,
 ⟨(some 2), none, .id, [.slot 116], none⟩,
 ⟨(some 3), none, .id, [.val (.int .i64 4)], none⟩])
 (.ret))))))))))))))))))
def F_unicode_utf8_decodeRuneInStringSlow : IFun := ⟨117, [.slot 2, .slot 3], b_unicode_utf8_decodeRuneInStringSlow, 8, 0, nofn⟩
theorem c_unicode_utf8_decodeRuneInStringSlow : cFun Tryz.prog [1048585] 0 f_unicode_utf8_decodeRuneInStringSlow = some F_unicode_utf8_decodeRuneInStringSlow := by kernel_rfl

-- strings.IndexRune: not taken
def b_value_guess : ICode :=
 .seq
 (.region [
 ⟨(some 2), none, .allocL [(.int .i64 0), (.int .i64 0), (.str ⟨#[]⟩)], [], none⟩])
 (.seq
 (.block 0
 (.seq
 (.region [
 ⟨(some 6), none, .id, [.slot 0], none⟩,
 ⟨(some 7), none, .bin .eql, [.slot 6, .val (.str ⟨#[116, 114, 117, 101]⟩)], none⟩,
 ⟨(some 5), none, .id, [.slot 7], none⟩])
 (.cond (.slot 5)
 (.seq
 (.region [
 ⟨(some 8), none, .build [(.int .i64 0), (.int .i64 0), (.str ⟨#[]⟩)] [(0, 1), (1, 1)], [.val (.int .i64 1), .val (.int .i64 1)], none⟩,
 ⟨none, none, .store 3, [.slot 2, .slot 8], none⟩])
 (.ret))
 (.seq
 (.region [
 ⟨(some 10), none, .id, [.slot 0], none⟩,
 ⟨(some 11), none, .bin .eql, [.slot 10, .val (.str ⟨#[102, 97, 108, 115, 101]⟩)], none⟩,
 ⟨(some 9), none, .id, [.slot 11], none⟩])
 (.cond (.slot 9)
 (.seq
 (.region [
 ⟨(some 12), none, .build [(.int .i64 0), (.int .i64 0), (.str ⟨#[]⟩)] [(0, 1)], [.val (.int .i64 1)], none⟩,
 ⟨none, none, .store 3, [.slot 2, .slot 12], none⟩])
 (.ret))
 (.seq
 (.region [
 ⟨(some 14), none, .id, [.slot 0], none⟩,
 ⟨(some 15), none, .bin .eql, [.slot 14, .val (.str ⟨#[110, 117, 108, 108]⟩)], none⟩,
 ⟨(some 16), none, .id, [.slot 15], none⟩,
 ⟨(some 17), (some (16, false)), .id, [.slot 0], none⟩,
 ⟨(some 18), (some (16, false)), .lenstr, [.slot 17], none⟩,
 ⟨(some 19), (some (16, false)), .bin .lss, [.slot 18, .val (.int .i64 1)], none⟩,
 ⟨(some 20), none, .pick, [.slot 16, .val (.bool true), .slot 19], none⟩,
 ⟨(some 13), none, .id, [.slot 20], none⟩])
 (.cond (.slot 13)
 (.seq
 (.region [
 ⟨(some 21), none, .build [(.int .i64 0), (.int .i64 0), (.str ⟨#[]⟩)] [], [], none⟩,
 ⟨none, none, .store 3, [.slot 2, .slot 21], none⟩])
 (.ret))
 (.seq
 (.region [
 ⟨(some 23), none, .id, [.slot 0], none⟩,
 ⟨(some 24), none, .lenstr, [.slot 23], none⟩,
 ⟨(some 25), none, .bin .gtr, [.slot 24, .val (.int .i64 1)], none⟩,
 ⟨(some 26), none, .id, [.slot 25], none⟩,
 ⟨(some 27), (some (26, true)), .id, [.slot 0], none⟩,
 ⟨(some 28), (some (26, true)), .ixstr, [.slot 27, .val (.int .i64 0)], none⟩,
 ⟨(some 29), (some (26, true)), .bin .eql, [.slot 28, .val (.int .u8 39)], none⟩,
 ⟨(some 30), none, .pick, [.slot 26, .slot 29, .val (.bool false)], none⟩,
 ⟨(some 22), none, .id, [.slot 30], none⟩])
 (.cond (.slot 22)
 (.seq
 (.region [
 ⟨(some 31), none, .id, [.slot 0], none⟩,
 ⟨(some 32), none, .call f_value_unquoted, [.slot 31], none⟩,
 ⟨(some 33), none, .build [(.int .i64 0), (.int .i64 0), (.str ⟨#[]⟩)] [(0, 1), (2, 1)], [.val (.int .i64 3), .slot 32], none⟩,
 ⟨none, none, .store 3, [.slot 2, .slot 33], none⟩])
 (.ret))
 (.seq
 (.region [
 ⟨(some 35), none, .id, [.slot 0], none⟩,
 ⟨(some 36), none, .lenstr, [.slot 35], none⟩,
 ⟨(some 37), none, .bin .gtr, [.slot 36, .val (.int .i64 1)], none⟩,
 ⟨(some 38), none, .id, [.slot 37], none⟩,
 ⟨(some 39), (some (38, true)), .id, [.slot 0], none⟩,
 ⟨(some 40), (some (38, true)), .ixstr, [.slot 39, .val (.int .i64 0)], none⟩,
 ⟨(some 41), (some (38, true)), .bin .eql, [.slot 40, .val (.int .u8 40)], none⟩,
 ⟨(some 42), none, .pick, [.slot 38, .slot 41, .val (.bool false)], none⟩,
 ⟨(some 34), none, .id, [.slot 42], none⟩])
 (.cond (.slot 34)
 (.seq
 (.region [
 ⟨(some 43), none, .id, [.slot 0], none⟩,
 ⟨(some 44), none, .id, [.slot 0], none⟩,
 ⟨(some 45), none, .lenstr, [.slot 44], none⟩,
 ⟨(some 46), none, .bin .sub, [.slot 45, .val (.int .i64 1)], none⟩,
 ⟨(some 47), none, .slstr true true, [.slot 43, .val (.int .i64 1), .slot 46], none⟩,
 ⟨(some 48), none, .build [(.int .i64 0), (.int .i64 0), (.str ⟨#[]⟩)] [(0, 1), (2, 1)], [.val (.int .i64 4), .slot 47], none⟩,
 ⟨none, none, .store 3, [.slot 2, .slot 48], none⟩])
 (.ret))
 (.seq
 (.region [
 ⟨(some 50), none, .id, [.slot 0], none⟩,
 ⟨(some 51), none, .lenstr, [.slot 50], none⟩,
 ⟨(some 52), none, .bin .gtr, [.slot 51, .val (.int .i64 1)], none⟩,
 ⟨(some 53), none, .id, [.slot 52], none⟩,
 ⟨(some 54), (some (53, true)), .id, [.slot 0], none⟩,
 ⟨(some 55), (some (53, true)), .ixstr, [.slot 54, .val (.int .i64 0)], none⟩,
 ⟨(some 56), (some (53, true)), .bin .eql, [.slot 55, .val (.int .u8 91)], none⟩,
 ⟨(some 57), none, .pick, [.slot 53, .slot 56, .val (.bool false)], none⟩,
 ⟨(some 49), none, .id, [.slot 57], none⟩])
 (.cond (.slot 49)
 (.seq
 (.region [
 ⟨(some 58), none, .id, [.slot 0], none⟩,
 ⟨(some 59), none, .id, [.slot 0], none⟩,
 ⟨(some 60), none, .lenstr, [.slot 59], none⟩,
 ⟨(some 61), none, .bin .sub, [.slot 60, .val (.int .i64 1)], none⟩,
 ⟨(some 62), none, .slstr true true, [.slot 58, .val (.int .i64 1), .slot 61], none⟩,
 ⟨(some 63), none, .build [(.int .i64 0), (.int .i64 0), (.str ⟨#[]⟩)] [(0, 1), (2, 1)], [.val (.int .i64 5), .slot 62], none⟩,
 ⟨none, none, .store 3, [.slot 2, .slot 63], none⟩])
 (.ret))
 (.skip))))))))))))))
 (.seq
 (.region [
 ⟨(some 65), none, .id, [.slot 0], none⟩,
 ⟨(some 66), none, .call f_strconv_Atoi, [.slot 65], none⟩,
 ⟨(some 64), none, .id, [.slot 66], none⟩,
 ⟨(some 67), none, .extract 0, [.slot 64], none⟩,
 ⟨(some 68), none, .extract 1, [.slot 64], none⟩,
 ⟨(some 3), none, .id, [.slot 67], none⟩,
 ⟨(some 4), none, .id, [.slot 68], none⟩])
 (.seq
 (.region [
 ⟨(some 69), none, .id, [.slot 3], none⟩,
 ⟨(some 70), none, .build [(.int .i64 0), (.int .i64 0), (.str ⟨#[]⟩)] [(0, 1), (1, 1)], [.val (.int .i64 2), .slot 69], none⟩,
 ⟨none, none, .store 3, [.slot 2, .slot 70], none⟩])
 (.ret))))
def F_value_guess : IFun := ⟨71, [.cell 2 3 true], b_value_guess, 8, 0, nofn⟩
theorem c_value_guess : cFun Tryz.prog [1048578, 2097245, 2097206] 0 f_value_guess = some F_value_guess := by kernel_rfl

def b_stringslite_HasPrefix : ICode :=
 .seq
 (.region [
 ⟨(some 4), none, .id, [.val (.bool false)], none⟩])
 (.seq
 (.region [
 ⟨(some 5), none, .id, [.slot 0], none⟩,
 ⟨(some 6), none, .lenstr, [.slot 5], none⟩,
 ⟨(some 7), none, .id, [.slot 1], none⟩,
 ⟨(some 8), none, .lenstr, [.slot 7], none⟩,
 ⟨(some 9), none, .bin .geq, [.slot 6, .slot 8], none⟩,
 ⟨(some 10), none, .id, [.slot 9], none⟩,
 ⟨(some 11), (some (10, true)), .id, [.slot 0], none⟩,
 ⟨(some 12), (some (10, true)), .id, [.slot 1], none⟩,
 ⟨(some 13), (some (10, true)), .lenstr, [.slot 12], none⟩,
 ⟨(some 14), (some (10, true)), .slstr false true, [.slot 11, .slot 13], none⟩,
 ⟨(some 15), (some (10, true)), .id, [.slot 1], none⟩,
 ⟨(some 16), (some (10, true)), .bin .eql, [.slot 14, .slot 15], none⟩,
 ⟨(some 17), none, .pick, [.slot 10, .slot 16, .val (.bool false)], none⟩,
 ⟨(some 4), none, .id, [.slot 17], none⟩])
 (.ret))
def F_stringslite_HasPrefix : IFun := ⟨18, [.slot 4], b_stringslite_HasPrefix, 8, 0, nofn⟩
theorem c_stringslite_HasPrefix : cFun Tryz.prog [] 0 f_stringslite_HasPrefix = some F_stringslite_HasPrefix := by kernel_rfl

def b_strconv_FormatBool_77 : ICode :=
 .seq
 (.region [
 ⟨(some 2), none, .id, [.val (.str ⟨#[]⟩)], none⟩])
 (.seq
 (.seq
 (.region [
 ⟨(some 3), none, .id, [.slot 0], none⟩])
 (.cond (.slot 3)
 (.seq
 (.region [
 ⟨(some 2), none, .id, [.val (.str ⟨#[116, 114, 117, 101]⟩)], none⟩])
 (.ret))
 (.skip)))
 (.seq
 (.region [
 ⟨(some 2), none, .id, [.val (.str ⟨#[102, 97, 108, 115, 101]⟩)], none⟩])
 (.ret)))
def F_strconv_FormatBool_77 : IFun := ⟨4, [.slot 2], b_strconv_FormatBool_77, 8, 0, nofn⟩
theorem c_strconv_FormatBool_77 : cFun Tryz.prog [] 0 f_strconv_FormatBool_77 = some F_strconv_FormatBool_77 := by kernel_rfl

def b_strings_Builder_WriteByte : ICode :=
 .seq
 (.region [
 ⟨(some 4), none, .id, [.val .niliface], none⟩])
 (.seq
 (.region [
 ⟨(some 5), none, .id, [.slot 0], none⟩,
 ⟨(some 6), none, .call f_strings_Builder_copyCheck, [.slot 5], none⟩])
 (.seq
 (.region [
 ⟨(some 7), none, .id, [.slot 0], none⟩,
 ⟨(some 8), none, .id, [.slot 0], none⟩,
 ⟨(some 9), none, .nilchk, [.slot 8], none⟩,
 ⟨(some 10), none, .faddr 1, [.slot 9], none⟩,
 ⟨(some 11), none, .load 1 false, [.slot 10], none⟩,
 ⟨(some 12), none, .id, [.slot 1], none⟩,
 ⟨(some 13), none, .buildSl 1 1 (.int .u8 0) [0], [.slot 12], none⟩,
 ⟨(some 14), none, .append 5 1 1, [.slot 11, .slot 13], none⟩,
 ⟨(some 15), none, .nilchk, [.slot 7], none⟩,
 ⟨(some 16), none, .faddr 1, [.slot 15], none⟩,
 ⟨none, none, .store 1, [.slot 16, .slot 14], none⟩])
 (.seq
 (.region [
 ⟨(some 4), none, .id, [.val .niliface], none⟩])
 (.ret))))
def F_strings_Builder_WriteByte : IFun := ⟨17, [.slot 4], b_strings_Builder_WriteByte, 8, 0, nofn⟩
theorem c_strings_Builder_WriteByte : cFun Tryz.prog [] 0 f_strings_Builder_WriteByte = some F_strings_Builder_WriteByte := by kernel_rfl

def F_strings_Split : IFun := ⟨8, [], .trap, 0, 11, nofn⟩

def L0_value_names : ICode :=
 .seq
 (.region [
 ⟨(some 8), none, .bin .lss, [.slot 7, .slot 6], none⟩])
 (.seq
 (.cond (.slot 8)
 (.skip)
 (.exit 0))
 (.seq
 (.block 1
 (.seq
 (.region [
 ⟨(some 9), none, .ixaddr 1, [.slot 5, .slot 7], none⟩,
 ⟨(some 10), none, .load 1 false, [.slot 9], none⟩,
 ⟨(some 4), none, .id, [.slot 10], none⟩])
 (.seq
 (.region [
 ⟨(some 11), none, .id, [.slot 4], none⟩,
 ⟨(some 12), none, .call f_value_Name, [.slot 11], none⟩,
 ⟨(some 13), none, .un .not, [.slot 12], none⟩])
 (.cond (.slot 13)
 (.seq
 (.region [
 ⟨(some 2), none, .id, [.val (.bool false)], none⟩])
 (.ret))
 (.skip)))))
 (.region [
 ⟨(some 14), none, .bin .add, [.slot 7, .val (.int .i64 1)], none⟩,
 ⟨(some 7), none, .id, [.slot 14], none⟩])))
def b_value_names : ICode :=
 .seq
 (.region [
 ⟨(some 2), none, .id, [.val (.bool false)], none⟩])
 (.seq
 (.seq
 (.region [
 ⟨(some 5), none, .id, [.slot 0], none⟩,
 ⟨(some 6), none, .lensl, [.slot 5], none⟩,
 ⟨(some 7), none, .id, [.val (.int .i64 0)], none⟩])
 (.block 0
 (.loop L0_value_names)))
 (.seq
 (.region [
 ⟨(some 2), none, .id, [.val (.bool true)], none⟩])
 (.ret)))
def F_value_names : IFun := ⟨15, [.slot 2], b_value_names, 8, 0, nofn⟩
theorem c_value_names : cFun Tryz.prog [] 0 f_value_names = some F_value_names := by kernel_rfl

def L0_hedgerowref01_Split : ICode :=
 .seq
 (.seq
 (.region [
 ⟨(some 8), none, .id, [.slot 6], none⟩,
 ⟨(some 9), none, .id, [.slot 0], none⟩,
 ⟨(some 10), none, .lenstr, [.slot 9], none⟩,
 ⟨(some 11), none, .bin .lss, [.slot 8, .slot 10], none⟩])
 (.cond (.slot 11)
 (.skip)
 (.exit 0)))
 (.seq
 (.block 1
 (.seq
 (.region [
 ⟨(some 14), none, .id, [.slot 0], none⟩,
 ⟨(some 15), none, .id, [.slot 6], none⟩,
 ⟨(some 16), none, .ixstr, [.slot 14, .slot 15], none⟩,
 ⟨(some 17), none, .id, [.slot 1], none⟩,
 ⟨(some 18), none, .bin .eql, [.slot 16, .slot 17], none⟩])
 (.cond (.slot 18)
 (.region [
 ⟨(some 19), none, .id, [.slot 5], none⟩,
 ⟨(some 20), none, .buildSl 1 1 (.str ⟨#[]⟩) [0], [.val (.str ⟨#[]⟩)], none⟩,
 ⟨(some 21), none, .append 9 1 16, [.slot 19, .slot 20], none⟩,
 ⟨(some 5), none, .id, [.slot 21], none⟩])
 (.region [
 ⟨(some 22), none, .id, [.slot 5], none⟩,
 ⟨(some 23), none, .id, [.slot 5], none⟩,
 ⟨(some 24), none, .lensl, [.slot 23], none⟩,
 ⟨(some 25), none, .bin .sub, [.slot 24, .val (.int .i64 1)], none⟩,
 ⟨(some 26), none, .id, [.slot 5], none⟩,
 ⟨(some 27), none, .id, [.slot 5], none⟩,
 ⟨(some 28), none, .lensl, [.slot 27], none⟩,
 ⟨(some 29), none, .bin .sub, [.slot 28, .val (.int .i64 1)], none⟩,
 ⟨(some 30), none, .ixaddr 1, [.slot 26, .slot 29], none⟩,
 ⟨(some 31), none, .load 1 false, [.slot 30], (some (.heap))⟩,
 ⟨(some 32), none, .id, [.slot 0], none⟩,
 ⟨(some 33), none, .id, [.slot 6], none⟩,
 ⟨(some 34), none, .id, [.slot 6], none⟩,
 ⟨(some 35), none, .bin .add, [.slot 34, .val (.int .i64 1)], none⟩,
 ⟨(some 36), none, .slstr true true, [.slot 32, .slot 33, .slot 35], none⟩,
 ⟨(some 37), none, .bin .add, [.slot 31, .slot 36], none⟩,
 ⟨(some 38), none, .ixaddr 1, [.slot 22, .slot 25], none⟩,
 ⟨none, none, .store 1, [.slot 38, .slot 37], (some (.heap))⟩]))))
 (.region [
 ⟨(some 12), none, .id, [.slot 6], none⟩,
 ⟨(some 13), none, .bin .add, [.slot 12, .val (.int .i64 1)], none⟩,
 ⟨(some 6), none, .id, [.slot 13], none⟩]))
def b_hedgerowref01_Split : ICode :=
 .seq
 (.region [
 ⟨(some 4), none, .id, [.val .nilsl], none⟩])
 (.seq
 (.region [
 ⟨(some 7), none, .buildR 9 1 1 (.str ⟨#[]⟩) [0], [.val (.str ⟨#[]⟩)], none⟩,
 ⟨(some 5), none, .id, [.slot 7], none⟩])
 (.seq
 (.seq
 (.region [
 ⟨(some 6), none, .id, [.val (.int .i64 0)], none⟩])
 (.block 0
 (.loop L0_hedgerowref01_Split)))
 (.seq
 (.region [
 ⟨(some 39), none, .id, [.slot 5], none⟩,
 ⟨(some 4), none, .id, [.slot 39], none⟩])
 (.ret))))
def F_hedgerowref01_Split : IFun := ⟨40, [.slot 4], b_hedgerowref01_Split, 8, 0, nofn⟩
theorem c_hedgerowref01_Split : cFun Tryz.prog [7, 3145758, 3145766] 0 f_hedgerowref01_Split = some F_hedgerowref01_Split := by kernel_rfl

def L0_value_unquoted : ICode :=
 .seq
 (.seq
 (.region [
 ⟨(some 5), none, .id, [.slot 4], none⟩,
 ⟨(some 6), none, .id, [.slot 0], none⟩,
 ⟨(some 7), none, .lenstr, [.slot 6], none⟩,
 ⟨(some 8), none, .bin .sub, [.slot 7, .val (.int .i64 1)], none⟩,
 ⟨(some 9), none, .bin .lss, [.slot 5, .slot 8], none⟩])
 (.cond (.slot 9)
 (.skip)
 (.exit 0)))
 (.seq
 (.block 1
 (.seq
 (.seq
 (.region [
 ⟨(some 12), none, .id, [.slot 0], none⟩,
 ⟨(some 13), none, .id, [.slot 4], none⟩,
 ⟨(some 14), none, .ixstr, [.slot 12, .slot 13], none⟩,
 ⟨(some 15), none, .bin .eql, [.slot 14, .val (.int .u8 92)], none⟩])
 (.cond (.slot 15)
 (.region [
 ⟨(some 16), none, .id, [.slot 4], none⟩,
 ⟨(some 17), none, .bin .add, [.slot 16, .val (.int .i64 1)], none⟩,
 ⟨(some 4), none, .id, [.slot 17], none⟩])
 (.skip)))
 (.region [
 ⟨(some 18), none, .id, [.slot 0], none⟩,
 ⟨(some 19), none, .id, [.slot 4], none⟩,
 ⟨(some 20), none, .ixstr, [.slot 18, .slot 19], none⟩,
 ⟨(some 21), none, .call f_strings_Builder_WriteByte, [.slot 3, .slot 20], none⟩])))
 (.region [
 ⟨(some 10), none, .id, [.slot 4], none⟩,
 ⟨(some 11), none, .bin .add, [.slot 10, .val (.int .i64 1)], none⟩,
 ⟨(some 4), none, .id, [.slot 11], none⟩]))
def b_value_unquoted : ICode :=
 .seq
 (.region [
 ⟨(some 2), none, .id, [.val (.str ⟨#[]⟩)], none⟩])
 (.seq
 (.region [
 ⟨(some 3), none, .allocH 60 [.nilptr, .nilsl], [], none⟩])
 (.seq
 (.seq
 (.region [
 ⟨(some 4), none, .id, [.val (.int .i64 1)], none⟩])
 (.block 0
 (.loop L0_value_unquoted)))
 (.seq
 (.region [
 ⟨(some 22), none, .call f_strings_Builder_String, [.slot 3], none⟩,
 ⟨(some 2), none, .id, [.slot 22], none⟩])
 (.ret))))
def F_value_unquoted : IFun := ⟨23, [.slot 2], b_value_unquoted, 8, 1, nofn⟩
theorem c_value_unquoted : cFun Tryz.prog [3, 2097190] 1 f_value_unquoted = some F_value_unquoted := by kernel_rfl

def rows : List (Nat × List Nat × IFun) := [
 (3, [2097158, 2097159, 25], F_hedgerowlaw18_LexLong),
 (4, [1048583, 2097158, 2097160, 2097159], F_hedgerowlaw18_LexBlanks),
 (5, [2097158, 2097159, 2097162, 2097160], F_hedgerowlaw18_LexTokens),
 (6, [2097159, 2097160], F_hedgerowlaw18_fixed),
 (7, [1048581], F_lex_Tokens),
 (8, [1048582, 2097169], F_lex_Text),
 (9, [], F_hedgerowlaw18_same),
 (10, [1048582], F_hedgerowref18_Tokens),
 (11, [1048578], F_lex_Is),
 (12, [], F_lex_Words),
 (13, [], F_lex_Signs),
 (14, [5], F_strings_TrimLeft),
 (15, [1048578], F_lex_next),
 (16, [1048577, 1048580, 2097185], F_lex_one),
 (17, [], F_strings_Join),
 (18, [], F_hedgerowref18_size),
 (19, [1048578, 1048582], F_hedgerowref18_guess),
 (20, [1048577, 1048580], F_hedgerowref18_One),
 (21, [], F_strings_trimLeftByte),
 (22, [1048578], F_strings_makeASCIISet),
 (23, [], F_strings_trimLeftASCII),
 (24, [], F_strings_trimLeftUnicode),
 (25, [], F_lex_letter),
 (26, [1048578], F_lex_name),
 (27, [], F_lex_digit),
 (28, [1048578, 2097206], F_lex_number),
 (29, [1048578, 1048582], F_lex_text),
 (30, [1048578], F_lex_sign),
 (31, [], F_value_Name),
 (32, [], F_slices_Containsstringstring),
 (33, [], F_strconv_Itoa),
 (34, [1048577, 2097185, 2097214], F_value_String),
 (35, [1048577, 1048579], F_value_Right),
 (38, [], F_strings_Builder_String),
 (39, [], F_hedgerowref18_run),
 (40, [], F_hedgerowref18_text),
 (41, [], F_hedgerowref18_in),
 (42, [], F_hedgerowref18_Signs),
 (43, [1048578, 1048584], F_hedgerowref01_Parse),
 (44, [], F_hedgerowref18_Words),
 (45, [], F_hedgerowref01_Name),
 (46, [], F_hedgerowref01_Digits),
 (47, [1048577], F_hedgerowref01_Text),
 (48, [1048577, 1048579, 2097221], F_hedgerowref01_Right),
 (49, [], F_strings_asciiSet_contains),
 (50, [], F_unicode_utf8_DecodeRuneInString),
 (51, [], F_strings_ContainsRune),
 (52, [], F_lex_while),
 (53, [], F_lex_inner),
 (54, [], F_strconv_Atoi),
 (55, [1048578, 1048580], F_value_Parse),
 (56, [], F_strings_HasPrefix),
 (57, [], F_value_letter),
 (58, [], F_value_inner),
 (59, [], F_slices_Indexstringstring),
 (61, [], F_strconv_FormatBool),
 (62, [3, 2097190], F_value_quoted),
 (63, [], F_value_plain),
 (64, [1048577, 1048578, 2097231], F_value_Link),
 (65, [], F_strings_Builder_copyCheck),
 (67, [], F_hedgerowref01_number),
 (68, [], F_hedgerowref01_plain),
 (69, [1048578, 3145765, 3145768, 3145771], F_hedgerowref01_Link),
 (70, [1048585], F_unicode_utf8_decodeRuneInStringSlow),
 (74, [1048578, 2097245, 2097206], F_value_guess),
 (75, [], F_stringslite_HasPrefix),
 (77, [], F_strconv_FormatBool_77),
 (78, [], F_strings_Builder_WriteByte),
 (79, [], F_strings_Split),
 (80, [], F_value_names),
 (83, [7, 3145758, 3145766], F_hedgerowref01_Split),
 (93, [3, 2097190], F_value_unquoted)]
def T : Nat → Option IFun := tableOf rows
theorem T_rows : RowsOk Tryz.prog rows :=
 .cons c_hedgerowlaw18_LexLong (by decide) <|
 .cons c_hedgerowlaw18_LexBlanks (by decide) <|
 .cons c_hedgerowlaw18_LexTokens (by decide) <|
 .cons c_hedgerowlaw18_fixed (by decide) <|
 .cons c_lex_Tokens (by decide) <|
 .cons c_lex_Text (by decide) <|
 .cons c_hedgerowlaw18_same (by decide) <|
 .cons c_hedgerowref18_Tokens (by decide) <|
 .cons c_lex_Is (by decide) <|
 .cons c_lex_Words (by decide) <|
 .cons c_lex_Signs (by decide) <|
 .cons c_strings_TrimLeft (by decide) <|
 .cons c_lex_next (by decide) <|
 .cons c_lex_one (by decide) <|
 .lib lib10 (by decide) <|
 .cons c_hedgerowref18_size (by decide) <|
 .cons c_hedgerowref18_guess (by decide) <|
 .cons c_hedgerowref18_One (by decide) <|
 .cons c_strings_trimLeftByte (by decide) <|
 .cons c_strings_makeASCIISet (by decide) <|
 .cons c_strings_trimLeftASCII (by decide) <|
 .cons c_strings_trimLeftUnicode (by decide) <|
 .cons c_lex_letter (by decide) <|
 .cons c_lex_name (by decide) <|
 .cons c_lex_digit (by decide) <|
 .cons c_lex_number (by decide) <|
 .cons c_lex_text (by decide) <|
 .cons c_lex_sign (by decide) <|
 .cons c_value_Name (by decide) <|
 .cons c_slices_Containsstringstring (by decide) <|
 .lib lib12 (by decide) <|
 .cons c_value_String (by decide) <|
 .cons c_value_Right (by decide) <|
 .lib lib17 (by decide) <|
 .cons c_hedgerowref18_run (by decide) <|
 .cons c_hedgerowref18_text (by decide) <|
 .cons c_hedgerowref18_in (by decide) <|
 .cons c_hedgerowref18_Signs (by decide) <|
 .cons c_hedgerowref01_Parse (by decide) <|
 .cons c_hedgerowref18_Words (by decide) <|
 .cons c_hedgerowref01_Name (by decide) <|
 .cons c_hedgerowref01_Digits (by decide) <|
 .cons c_hedgerowref01_Text (by decide) <|
 .cons c_hedgerowref01_Right (by decide) <|
 .cons c_strings_asciiSet_contains (by decide) <|
 .cons c_unicode_utf8_DecodeRuneInString (by decide) <|
 .cons c_strings_ContainsRune (by decide) <|
 .cons c_lex_while (by decide) <|
 .cons c_lex_inner (by decide) <|
 .lib lib13 (by decide) <|
 .cons c_value_Parse (by decide) <|
 .cons c_strings_HasPrefix (by decide) <|
 .cons c_value_letter (by decide) <|
 .cons c_value_inner (by decide) <|
 .cons c_slices_Indexstringstring (by decide) <|
 .cons c_strconv_FormatBool (by decide) <|
 .cons c_value_quoted (by decide) <|
 .cons c_value_plain (by decide) <|
 .cons c_value_Link (by decide) <|
 .lib lib20 (by decide) <|
 .cons c_hedgerowref01_number (by decide) <|
 .cons c_hedgerowref01_plain (by decide) <|
 .cons c_hedgerowref01_Link (by decide) <|
 .cons c_unicode_utf8_decodeRuneInStringSlow (by decide) <|
 .cons c_value_guess (by decide) <|
 .cons c_stringslite_HasPrefix (by decide) <|
 .cons c_strconv_FormatBool_77 (by decide) <|
 .cons c_strings_Builder_WriteByte (by decide) <|
 .lib lib11 (by decide) <|
 .cons c_value_names (by decide) <|
 .cons c_hedgerowref01_Split (by decide) <|
 .cons c_value_unquoted (by decide) <|
 .nil
theorem T_ok : TableOk Tryz.prog T := tableOf_ok (by kernel_rfl) T_rows.all
theorem T_hedgerowlaw18_LexLong : T f_hedgerowlaw18_LexLong = some F_hedgerowlaw18_LexLong := by kernel_rfl
theorem T_hedgerowlaw18_LexBlanks : T f_hedgerowlaw18_LexBlanks = some F_hedgerowlaw18_LexBlanks := by kernel_rfl
theorem T_hedgerowlaw18_LexTokens : T f_hedgerowlaw18_LexTokens = some F_hedgerowlaw18_LexTokens := by kernel_rfl
theorem T_hedgerowlaw18_fixed : T f_hedgerowlaw18_fixed = some F_hedgerowlaw18_fixed := by kernel_rfl
theorem T_lex_Tokens : T f_lex_Tokens = some F_lex_Tokens := by kernel_rfl
theorem T_lex_Text : T f_lex_Text = some F_lex_Text := by kernel_rfl
theorem T_hedgerowlaw18_same : T f_hedgerowlaw18_same = some F_hedgerowlaw18_same := by kernel_rfl
theorem T_hedgerowref18_Tokens : T f_hedgerowref18_Tokens = some F_hedgerowref18_Tokens := by kernel_rfl
theorem T_lex_Is : T f_lex_Is = some F_lex_Is := by kernel_rfl
theorem T_lex_Words : T f_lex_Words = some F_lex_Words := by kernel_rfl
theorem T_lex_Signs : T f_lex_Signs = some F_lex_Signs := by kernel_rfl
theorem T_strings_TrimLeft : T f_strings_TrimLeft = some F_strings_TrimLeft := by kernel_rfl
theorem T_lex_next : T f_lex_next = some F_lex_next := by kernel_rfl
theorem T_lex_one : T f_lex_one = some F_lex_one := by kernel_rfl
theorem T_strings_Join : T f_strings_Join = some F_strings_Join := by kernel_rfl
theorem T_hedgerowref18_size : T f_hedgerowref18_size = some F_hedgerowref18_size := by kernel_rfl
theorem T_hedgerowref18_guess : T f_hedgerowref18_guess = some F_hedgerowref18_guess := by kernel_rfl
theorem T_hedgerowref18_One : T f_hedgerowref18_One = some F_hedgerowref18_One := by kernel_rfl
theorem T_strings_trimLeftByte : T f_strings_trimLeftByte = some F_strings_trimLeftByte := by kernel_rfl
theorem T_strings_makeASCIISet : T f_strings_makeASCIISet = some F_strings_makeASCIISet := by kernel_rfl
theorem T_strings_trimLeftASCII : T f_strings_trimLeftASCII = some F_strings_trimLeftASCII := by kernel_rfl
theorem T_strings_trimLeftUnicode : T f_strings_trimLeftUnicode = some F_strings_trimLeftUnicode := by kernel_rfl
theorem T_lex_letter : T f_lex_letter = some F_lex_letter := by kernel_rfl
theorem T_lex_name : T f_lex_name = some F_lex_name := by kernel_rfl
theorem T_lex_digit : T f_lex_digit = some F_lex_digit := by kernel_rfl
theorem T_lex_number : T f_lex_number = some F_lex_number := by kernel_rfl
theorem T_lex_text : T f_lex_text = some F_lex_text := by kernel_rfl
theorem T_lex_sign : T f_lex_sign = some F_lex_sign := by kernel_rfl
theorem T_value_Name : T f_value_Name = some F_value_Name := by kernel_rfl
theorem T_slices_Containsstringstring : T f_slices_Containsstringstring = some F_slices_Containsstringstring := by kernel_rfl
theorem T_strconv_Itoa : T f_strconv_Itoa = some F_strconv_Itoa := by kernel_rfl
theorem T_value_String : T f_value_String = some F_value_String := by kernel_rfl
theorem T_value_Right : T f_value_Right = some F_value_Right := by kernel_rfl
theorem T_strings_Builder_String : T f_strings_Builder_String = some F_strings_Builder_String := by kernel_rfl
theorem T_hedgerowref18_run : T f_hedgerowref18_run = some F_hedgerowref18_run := by kernel_rfl
theorem T_hedgerowref18_text : T f_hedgerowref18_text = some F_hedgerowref18_text := by kernel_rfl
theorem T_hedgerowref18_in : T f_hedgerowref18_in = some F_hedgerowref18_in := by kernel_rfl
theorem T_hedgerowref18_Signs : T f_hedgerowref18_Signs = some F_hedgerowref18_Signs := by kernel_rfl
theorem T_hedgerowref01_Parse : T f_hedgerowref01_Parse = some F_hedgerowref01_Parse := by kernel_rfl
theorem T_hedgerowref18_Words : T f_hedgerowref18_Words = some F_hedgerowref18_Words := by kernel_rfl
theorem T_hedgerowref01_Name : T f_hedgerowref01_Name = some F_hedgerowref01_Name := by kernel_rfl
theorem T_hedgerowref01_Digits : T f_hedgerowref01_Digits = some F_hedgerowref01_Digits := by kernel_rfl
theorem T_hedgerowref01_Text : T f_hedgerowref01_Text = some F_hedgerowref01_Text := by kernel_rfl
theorem T_hedgerowref01_Right : T f_hedgerowref01_Right = some F_hedgerowref01_Right := by kernel_rfl
theorem T_strings_asciiSet_contains : T f_strings_asciiSet_contains = some F_strings_asciiSet_contains := by kernel_rfl
theorem T_unicode_utf8_DecodeRuneInString : T f_unicode_utf8_DecodeRuneInString = some F_unicode_utf8_DecodeRuneInString := by kernel_rfl
theorem T_strings_ContainsRune : T f_strings_ContainsRune = some F_strings_ContainsRune := by kernel_rfl
theorem T_lex_while : T f_lex_while = some F_lex_while := by kernel_rfl
theorem T_lex_inner : T f_lex_inner = some F_lex_inner := by kernel_rfl
theorem T_strconv_Atoi : T f_strconv_Atoi = some F_strconv_Atoi := by kernel_rfl
theorem T_value_Parse : T f_value_Parse = some F_value_Parse := by kernel_rfl
theorem T_strings_HasPrefix : T f_strings_HasPrefix = some F_strings_HasPrefix := by kernel_rfl
theorem T_value_letter : T f_value_letter = some F_value_letter := by kernel_rfl
theorem T_value_inner : T f_value_inner = some F_value_inner := by kernel_rfl
theorem T_slices_Indexstringstring : T f_slices_Indexstringstring = some F_slices_Indexstringstring := by kernel_rfl
theorem T_strconv_FormatBool : T f_strconv_FormatBool = some F_strconv_FormatBool := by kernel_rfl
theorem T_value_quoted : T f_value_quoted = some F_value_quoted := by kernel_rfl
theorem T_value_plain : T f_value_plain = some F_value_plain := by kernel_rfl
theorem T_value_Link : T f_value_Link = some F_value_Link := by kernel_rfl
theorem T_strings_Builder_copyCheck : T f_strings_Builder_copyCheck = some F_strings_Builder_copyCheck := by kernel_rfl
theorem T_hedgerowref01_number : T f_hedgerowref01_number = some F_hedgerowref01_number := by kernel_rfl
theorem T_hedgerowref01_plain : T f_hedgerowref01_plain = some F_hedgerowref01_plain := by kernel_rfl
theorem T_hedgerowref01_Link : T f_hedgerowref01_Link = some F_hedgerowref01_Link := by kernel_rfl
theorem T_unicode_utf8_decodeRuneInStringSlow : T f_unicode_utf8_decodeRuneInStringSlow = some F_unicode_utf8_decodeRuneInStringSlow := by kernel_rfl
theorem T_value_guess : T f_value_guess = some F_value_guess := by kernel_rfl
theorem T_stringslite_HasPrefix : T f_stringslite_HasPrefix = some F_stringslite_HasPrefix := by kernel_rfl
theorem T_strconv_FormatBool_77 : T f_strconv_FormatBool_77 = some F_strconv_FormatBool_77 := by kernel_rfl
theorem T_strings_Builder_WriteByte : T f_strings_Builder_WriteByte = some F_strings_Builder_WriteByte := by kernel_rfl
theorem T_strings_Split : T f_strings_Split = some F_strings_Split := by kernel_rfl
theorem T_value_names : T f_value_names = some F_value_names := by kernel_rfl
theorem T_hedgerowref01_Split : T f_hedgerowref01_Split = some F_hedgerowref01_Split := by kernel_rfl
theorem T_value_unquoted : T f_value_unquoted = some F_value_unquoted := by kernel_rfl
end Go.Proofs.YtlmiihdkgaljoaaGreatDoor
