/- By program (Gen): the functions of the program, as the shadow machine has them. -/
import Derived.Test.YtalhcaadpgadkaaDoorChecked
import Derived.Test.YtalhcaadpgadkaaDoorShT
import Derived.Test.YtalhcaadpgadkaaDoorLib
set_option linter.all false
namespace Go.Proofs.YtalhcaadpgadkaaDoor
open Go.Sh
set_option maxRecDepth 100000

abbrev f_main_main : Nat := 0
abbrev f_gosem_cut : Nat := 1
/-- gosem.cut.init -/
abbrev f_gosem_cut_init : Nat := 2
/-- hedgerow/hedgerowlaw29.ScriptJoins -/
abbrev f_hedgerowlaw29_ScriptJoins : Nat := 3
/-- hedgerow/hedgerowlaw29.fixed -/
abbrev f_hedgerowlaw29_fixed : Nat := 4
/-- hedgerow/hedgerowlaw29.few -/
abbrev f_hedgerowlaw29_few : Nat := 5
/-- hedgerow/script.Text -/
abbrev f_script_Text : Nat := 6
/-- hedgerow/script.Read -/
abbrev f_script_Read : Nat := 7
/-- hedgerow/hedgerowref29.Same -/
abbrev f_hedgerowref29_Same : Nat := 8
/-- hedgerow/script.step -/
abbrev f_script_step : Nat := 9
/-- (*strings.Builder).WriteString -/
abbrev f_strings_Builder_WriteString : Nat := 10
/-- (*strings.Builder).String -/
abbrev f_strings_Builder_String : Nat := 11
/-- (*hedgerow/script.reader).step -/
abbrev f_script_reader_step : Nat := 12
/-- hedgerow/script.names -/
abbrev f_script_names : Nat := 13
/-- hedgerow/script.plain -/
abbrev f_script_plain : Nat := 14
/-- hedgerow/script.own -/
abbrev f_script_own : Nat := 15
/-- strconv.Itoa -/
abbrev f_strconv_Itoa : Nat := 16
/-- hedgerow/script.turned -/
abbrev f_script_turned : Nat := 17
/-- strings.Join -/
abbrev f_strings_Join : Nat := 18
/-- hedgerow/script.Change -/
abbrev f_script_Change : Nat := 19
/-- (*strings.Builder).copyCheck -/
abbrev f_strings_Builder_copyCheck : Nat := 20
/-- (*hedgerow/script.reader).line -/
abbrev f_script_reader_line : Nat := 21
/-- slices.Index[[]string,string] -/
abbrev f_slices_Indexstringstring : Nat := 22
/-- hedgerow/script.word -/
abbrev f_script_word : Nat := 23
/-- (*hedgerow/script.reader).number -/
abbrev f_script_reader_number : Nat := 24
/-- hedgerow/script.ReadChange -/
abbrev f_script_ReadChange : Nat := 25
/-- internal/strconv.Itoa -/
abbrev f_strconv_Itoa_26 : Nat := 26
/-- (*strings.Builder).Grow -/
abbrev f_strings_Builder_Grow : Nat := 27
/-- hedgerow/value.Elem -/
abbrev f_value_Elem : Nat := 28
/-- hedgerow/value.Right -/
abbrev f_value_Right : Nat := 29
/-- hedgerow/script.ops -/
abbrev f_script_ops : Nat := 30
/-- hedgerow/script.elems -/
abbrev f_script_elems : Nat := 31
/-- hedgerow/script.parts -/
abbrev f_script_parts : Nat := 32
/-- hedgerow/value.String -/
abbrev f_value_String : Nat := 33
abbrev f_abi_NoEscape : Nat := 34
/-- strings.Cut -/
abbrev f_strings_Cut : Nat := 35
/-- strconv.Atoi -/
abbrev f_strconv_Atoi : Nat := 36
/-- hedgerow/value.Parse -/
abbrev f_value_Parse : Nat := 37
/-- internal/strconv.FormatInt -/
abbrev f_strconv_FormatInt : Nat := 38
/-- (*strings.Builder).grow -/
abbrev f_strings_Builder_grow : Nat := 39
/-- hedgerow/value.names -/
abbrev f_value_names : Nat := 40
/-- hedgerow/value.empty -/
abbrev f_value_empty : Nat := 41
/-- hedgerow/value.plain -/
abbrev f_value_plain : Nat := 42
/-- hedgerow/value.Name -/
abbrev f_value_Name : Nat := 43
/-- hedgerow/value.Link -/
abbrev f_value_Link : Nat := 44
/-- strconv.FormatBool -/
abbrev f_strconv_FormatBool : Nat := 45
/-- hedgerow/value.quoted -/
abbrev f_value_quoted : Nat := 46
/-- internal/stringslite.Cut -/
abbrev f_stringslite_Cut : Nat := 47
/-- internal/strconv.Atoi -/
abbrev f_strconv_Atoi_48 : Nat := 48
/-- strconv.toError -/
abbrev f_strconv_toError : Nat := 49
/-- hedgerow/value.guess -/
abbrev f_value_guess : Nat := 50
/-- internal/strconv.small -/
abbrev f_strconv_small : Nat := 51
/-- internal/strconv.numDigits -/
abbrev f_strconv_numDigits : Nat := 52
/-- internal/strconv.formatBase10 -/
abbrev f_strconv_formatBase10 : Nat := 53
/-- internal/strconv.formatBits -/
abbrev f_strconv_formatBits : Nat := 54
abbrev f_bytealg_MakeNoZero : Nat := 55
/-- hedgerow/value.letter -/
abbrev f_value_letter : Nat := 56
/-- hedgerow/value.inner -/
abbrev f_value_inner : Nat := 57
/-- strings.Split -/
abbrev f_strings_Split : Nat := 58
/-- internal/strconv.FormatBool -/
abbrev f_strconv_FormatBool_59 : Nat := 59
/-- (*strings.Builder).WriteByte -/
abbrev f_strings_Builder_WriteByte : Nat := 60
/-- internal/stringslite.Index -/
abbrev f_stringslite_Index : Nat := 61
/-- internal/strconv.ParseInt -/
abbrev f_strconv_ParseInt : Nat := 62
/-- strconv.syntaxError -/
abbrev f_strconv_syntaxError : Nat := 63
/-- strconv.rangeError -/
abbrev f_strconv_rangeError : Nat := 64
/-- strconv.baseError -/
abbrev f_strconv_baseError : Nat := 65
/-- strconv.bitSizeError -/
abbrev f_strconv_bitSizeError : Nat := 66
/-- hedgerow/value.unquoted -/
abbrev f_value_unquoted : Nat := 67
/-- internal/strconv.log10Pow2 -/
abbrev f_strconv_log10Pow2 : Nat := 68
/-- math/bits.Len64 -/
abbrev f_math_bits_Len64 : Nat := 69
/-- internal/strconv.bool2[int] -/
abbrev f_strconv_bool2int : Nat := 70
/-- internal/strconv.isPowerOfTwo -/
abbrev f_strconv_isPowerOfTwo : Nat := 71
/-- math/bits.TrailingZeros -/
abbrev f_math_bits_TrailingZeros : Nat := 72
/-- strings.genSplit -/
abbrev f_strings_genSplit : Nat := 73
/-- internal/stringslite.IndexByte -/
abbrev f_stringslite_IndexByte : Nat := 74
abbrev f_bytealg_IndexString : Nat := 75
/-- internal/bytealg.Cutover -/
abbrev f_bytealg_Cutover : Nat := 76
/-- internal/bytealg.IndexRabinKarp[string] -/
abbrev f_bytealg_IndexRabinKarpstring : Nat := 77
/-- internal/strconv.ParseUint -/
abbrev f_strconv_ParseUint : Nat := 78
/-- internal/stringslite.Clone -/
abbrev f_stringslite_Clone : Nat := 79
/-- errors.New -/
abbrev f_errors_New : Nat := 80
/-- math/bits.TrailingZeros32 -/
abbrev f_math_bits_TrailingZeros32 : Nat := 81
/-- math/bits.TrailingZeros64 -/
abbrev f_math_bits_TrailingZeros64 : Nat := 82
/-- strings.explode -/
abbrev f_strings_explode : Nat := 83
/-- strings.Count -/
abbrev f_strings_Count : Nat := 84
/-- strings.Index -/
abbrev f_strings_Index : Nat := 85
abbrev f_bytealg_IndexByteString : Nat := 86
/-- internal/bytealg.hashStr[string] -/
abbrev f_bytealg_hashStrstring : Nat := 87
/-- internal/strconv.lower -/
abbrev f_strconv_lower : Nat := 88
/-- internal/strconv.underscoreOK -/
abbrev f_strconv_underscoreOK : Nat := 89
/-- unicode/utf8.RuneCountInString -/
abbrev f_unicode_utf8_RuneCountInString : Nat := 90
/-- unicode/utf8.DecodeRuneInString -/
abbrev f_unicode_utf8_DecodeRuneInString : Nat := 91
abbrev f_bytealg_CountString : Nat := 92
/-- unicode/utf8.decodeRuneInStringSlow -/
abbrev f_unicode_utf8_decodeRuneInStringSlow : Nat := 93
abbrev f_runtime_boundsError_Error : Nat := 94
abbrev f_runtime_boundsError_RuntimeError : Nat := 95
abbrev f_runtime_errorString_Error : Nat := 96
abbrev f_runtime_errorString_RuntimeError : Nat := 97
abbrev f_runtime_plainError_Error : Nat := 98
abbrev f_runtime_plainError_RuntimeError : Nat := 99
abbrev f_runtime_errorAddressString_Error : Nat := 100
abbrev f_runtime_errorAddressString_RuntimeError : Nat := 101
abbrev f_runtime_TypeAssertionError_Error : Nat := 102
abbrev f_runtime_TypeAssertionError_RuntimeError : Nat := 103
abbrev f_runtime_PanicNilError_Error : Nat := 104
abbrev f_runtime_PanicNilError_RuntimeError : Nat := 105
abbrev f_abi_Type_Align : Nat := 106
abbrev f_runtime_maps_unhashableTypeError_Error : Nat := 107
abbrev f_runtime_maps_unhashableTypeError_RuntimeError : Nat := 108
abbrev f_strings_Builder_Reset : Nat := 109
abbrev f_strconv_Error_Error : Nat := 110
abbrev f_strconv_NumError_Error : Nat := 111
abbrev f_errors_errorString_Error : Nat := 112
abbrev f_abi_Kind_String : Nat := 113
abbrev f_varsdoorgosem_cut_varsholdsinitialisersaloneseethemanifestsrowcutvarswordlook11testfilestoo : Nat := 114
abbrev f_varsdoorstrconv_uint64pow10islaidbyitsowninitialiserplaindatalook11 : Nat := 115
abbrev f_varsdoormath_bits_deBruijn32tabislaidbyitsowninitialiserplaindatalook11 : Nat := 116
abbrev f_varsdoormath_bits_deBruijn64tabislaidbyitsowninitialiserplaindatalook11 : Nat := 117
abbrev f_varsdoorstrconv_ErrRangeislaidbyitsowncalloferrors_Newononeliterallook11 : Nat := 118
abbrev f_varsdoorstrconv_ErrSyntaxislaidbyitsowncalloferrors_Newononeliterallook11 : Nat := 119
abbrev f_varsdoorthelookofgosem_cut_varswentoverthefolderthatthecallernamedastherepositorysrootlook11 : Nat := 120
abbrev f_varsdoorunicode_utf8_acceptRangesislaidbyitsowninitialiserplaindatalook11 : Nat := 121
abbrev f_varsdoorunicode_utf8_firstislaidbyitstextalonepinned1 : Nat := 122
/-- gosem.cut.vars -/
abbrev f_gosem_cut_vars : Nat := 123
def b_hedgerowlaw29_ScriptJoins : ICode :=
 .seq
  (.region [
    ⟨(some 4), none, .id, [.val (.bool false)], none⟩])
  (.seq
   (.seq
    (.region [
      ⟨(some 14), none, .call f_hedgerowlaw29_fixed, [], none⟩,
      ⟨(some 15), none, .un .not, [.slot 14], none⟩])
    (.cond (.slot 15)
     (.seq
      (.region [
        ⟨(some 4), none, .id, [.val (.bool false)], none⟩])
      (.ret))
     (.skip)))
   (.seq
    (.seq
     (.region [
       ⟨(some 16), none, .id, [.slot 0], none⟩,
       ⟨(some 17), none, .call f_hedgerowlaw29_few, [.slot 16], none⟩,
       ⟨(some 18), none, .un .not, [.slot 17], none⟩,
       ⟨(some 19), none, .id, [.slot 18], none⟩,
       ⟨(some 20), (some (19, false)), .id, [.slot 1], none⟩,
       ⟨(some 21), (some (19, false)), .call f_hedgerowlaw29_few, [.slot 20], none⟩,
       ⟨(some 22), (some (19, false)), .un .not, [.slot 21], none⟩,
       ⟨(some 23), none, .pick, [.slot 19, .val (.bool true), .slot 22], none⟩])
     (.cond (.slot 23)
      (.seq
       (.region [
         ⟨(some 4), none, .id, [.val (.bool true)], none⟩])
       (.ret))
      (.skip)))
    (.seq
     (.region [
       ⟨(some 25), none, .id, [.slot 0], none⟩,
       ⟨(some 26), none, .call f_script_Text, [.slot 25], none⟩,
       ⟨(some 24), none, .id, [.slot 26], none⟩,
       ⟨(some 27), none, .extract 0, [.slot 24], none⟩,
       ⟨(some 28), none, .extract 1, [.slot 24], none⟩,
       ⟨(some 5), none, .id, [.slot 27], none⟩,
       ⟨(some 6), none, .id, [.slot 28], none⟩])
     (.seq
      (.region [
        ⟨(some 30), none, .id, [.slot 1], none⟩,
        ⟨(some 31), none, .call f_script_Text, [.slot 30], none⟩,
        ⟨(some 29), none, .id, [.slot 31], none⟩,
        ⟨(some 32), none, .extract 0, [.slot 29], none⟩,
        ⟨(some 33), none, .extract 1, [.slot 29], none⟩,
        ⟨(some 7), none, .id, [.slot 32], none⟩,
        ⟨(some 8), none, .id, [.slot 33], none⟩])
      (.seq
       (.region [
         ⟨(some 34), none, .buildSl 8 0 (.agg [(.int .i64 0), (.int .i64 0), (.int .i64 0), (.int .i64 0), (.int .i64 0), (.int .i64 0), (.int .u8 0), .nilsl]) [], [], none⟩,
         ⟨(some 35), none, .id, [.slot 0], none⟩,
         ⟨(some 36), none, .append 33 8 80, [.slot 34, .slot 35], none⟩,
         ⟨(some 37), none, .id, [.slot 1], none⟩,
         ⟨(some 38), none, .append 33 8 80, [.slot 36, .slot 37], none⟩,
         ⟨(some 9), none, .id, [.slot 38], none⟩])
       (.seq
        (.region [
          ⟨(some 40), none, .id, [.slot 9], none⟩,
          ⟨(some 41), none, .call f_script_Text, [.slot 40], none⟩,
          ⟨(some 39), none, .id, [.slot 41], none⟩,
          ⟨(some 42), none, .extract 0, [.slot 39], none⟩,
          ⟨(some 43), none, .extract 1, [.slot 39], none⟩,
          ⟨(some 10), none, .id, [.slot 42], none⟩,
          ⟨(some 11), none, .id, [.slot 43], none⟩])
        (.seq
         (.seq
          (.region [
            ⟨(some 44), none, .id, [.slot 6], none⟩,
            ⟨(some 45), none, .un .not, [.slot 44], none⟩,
            ⟨(some 46), none, .id, [.slot 45], none⟩,
            ⟨(some 47), (some (46, false)), .id, [.slot 8], none⟩,
            ⟨(some 48), (some (46, false)), .un .not, [.slot 47], none⟩,
            ⟨(some 49), none, .pick, [.slot 46, .val (.bool true), .slot 48], none⟩])
          (.cond (.slot 49)
           (.seq
            (.region [
              ⟨(some 50), none, .id, [.slot 11], none⟩,
              ⟨(some 51), none, .un .not, [.slot 50], none⟩,
              ⟨(some 52), none, .id, [.slot 51], none⟩,
              ⟨(some 53), (some (52, true)), .id, [.slot 10], none⟩,
              ⟨(some 54), (some (52, true)), .bin .eql, [.slot 53, .val (.str ⟨#[]⟩)], none⟩,
              ⟨(some 55), none, .pick, [.slot 52, .slot 54, .val (.bool false)], none⟩,
              ⟨(some 4), none, .id, [.slot 55], none⟩])
            (.ret))
           (.skip)))
         (.seq
          (.region [
            ⟨(some 57), none, .id, [.slot 5], none⟩,
            ⟨(some 58), none, .id, [.slot 7], none⟩,
            ⟨(some 59), none, .bin .add, [.slot 57, .slot 58], none⟩,
            ⟨(some 60), none, .call f_script_Read, [.slot 59], none⟩,
            ⟨(some 56), none, .id, [.slot 60], none⟩,
            ⟨(some 61), none, .extract 0, [.slot 56], none⟩,
            ⟨(some 62), none, .extract 1, [.slot 56], none⟩,
            ⟨(some 12), none, .id, [.slot 61], none⟩,
            ⟨(some 13), none, .id, [.slot 62], none⟩])
          (.seq
           (.region [
             ⟨(some 63), none, .id, [.slot 11], none⟩,
             ⟨(some 64), none, .id, [.slot 63], none⟩,
             ⟨(some 65), (some (64, true)), .id, [.slot 10], none⟩,
             ⟨(some 66), (some (64, true)), .id, [.slot 5], none⟩,
             ⟨(some 67), (some (64, true)), .id, [.slot 7], none⟩,
             ⟨(some 68), (some (64, true)), .bin .add, [.slot 66, .slot 67], none⟩,
             ⟨(some 69), (some (64, true)), .bin .eql, [.slot 65, .slot 68], none⟩,
             ⟨(some 70), none, .pick, [.slot 64, .slot 69, .val (.bool false)], none⟩,
             ⟨(some 71), none, .id, [.slot 70], none⟩,
             ⟨(some 72), (some (71, true)), .id, [.slot 13], none⟩,
             ⟨(some 73), (some (71, true)), .bin .eql, [.slot 72, .val (.int .i64 0)], none⟩,
             ⟨(some 74), none, .pick, [.slot 71, .slot 73, .val (.bool false)], none⟩,
             ⟨(some 75), none, .id, [.slot 74], none⟩,
             ⟨(some 76), (some (75, true)), .id, [.slot 12], none⟩,
             ⟨(some 77), (some (75, true)), .id, [.slot 9], none⟩,
             ⟨(some 78), (some (75, true)), .call f_hedgerowref29_Same, [.slot 76, .slot 77], none⟩,
             ⟨(some 79), none, .pick, [.slot 75, .slot 78, .val (.bool false)], none⟩,
             ⟨(some 4), none, .id, [.slot 79], none⟩])
           (.ret))))))))))
def F_hedgerowlaw29_ScriptJoins : IFun := ⟨80, [.slot 4], b_hedgerowlaw29_ScriptJoins, 8, 0⟩
theorem c_hedgerowlaw29_ScriptJoins : cFun Tryd.prog [2097156, 2097158, 2097159] 0 f_hedgerowlaw29_ScriptJoins = some F_hedgerowlaw29_ScriptJoins := by kernel_rfl

def b_hedgerowlaw29_fixed : ICode :=
 .seq
  (.region [
    ⟨(some 0), none, .id, [.val (.bool false)], none⟩])
  (.seq
   (.region [
     ⟨(some 8), none, .build [(.int .i64 0), (.int .i64 0), (.int .i64 0), (.int .i64 0), (.int .i64 0), (.int .i64 0), (.int .u8 0), .nilsl] [(0, 1), (2, 1)], [.val (.int .i64 2), .val (.int .i64 1)], none⟩,
     ⟨(some 9), none, .build [(.int .i64 0), (.str ⟨#[]⟩), (.str ⟨#[]⟩), (.str ⟨#[]⟩), (.str ⟨#[]⟩)] [(0, 1), (1, 1), (4, 1)], [.val (.int .i64 4), .val (.str ⟨#[97]⟩), .val (.str ⟨#[112]⟩)], none⟩,
     ⟨(some 10), none, .build [(.int .i64 0), (.int .i64 0), (.str ⟨#[]⟩)] [(0, 1), (2, 1)], [.val (.int .i64 3), .val (.str ⟨#[120, 32, 121]⟩)], none⟩,
     ⟨(some 11), none, .build [(.int .i64 0), (.int .i64 0), (.str ⟨#[]⟩), (.str ⟨#[]⟩), (.str ⟨#[]⟩), (.str ⟨#[]⟩), (.int .i64 0), (.int .i64 0), (.str ⟨#[]⟩)] [(0, 1), (1, 5), (6, 3)], [.val (.int .i64 3), .slot 9, .slot 10], none⟩,
     ⟨(some 12), none, .buildSl 9 1 (.agg [(.int .i64 0), (.int .i64 0), (.str ⟨#[]⟩), (.str ⟨#[]⟩), (.str ⟨#[]⟩), (.str ⟨#[]⟩), (.int .i64 0), (.int .i64 0), (.str ⟨#[]⟩)]) [0], [.slot 11], none⟩,
     ⟨(some 13), none, .build [(.int .i64 0), (.int .i64 0), (.int .i64 0), (.int .i64 0), (.int .i64 0), (.int .i64 0), (.int .u8 0), .nilsl] [(0, 1), (7, 1)], [.val (.int .i64 1), .slot 12], none⟩,
     ⟨(some 14), none, .buildSl 8 2 (.agg [(.int .i64 0), (.int .i64 0), (.int .i64 0), (.int .i64 0), (.int .i64 0), (.int .i64 0), (.int .u8 0), .nilsl]) [0, 1], [.slot 8, .slot 13], none⟩,
     ⟨(some 1), none, .id, [.slot 14], none⟩])
   (.seq
    (.region [
      ⟨(some 16), none, .id, [.slot 1], none⟩,
      ⟨(some 17), none, .call f_script_Text, [.slot 16], none⟩,
      ⟨(some 15), none, .id, [.slot 17], none⟩,
      ⟨(some 18), none, .extract 0, [.slot 15], none⟩,
      ⟨(some 19), none, .extract 1, [.slot 15], none⟩,
      ⟨(some 2), none, .id, [.slot 18], none⟩,
      ⟨(some 3), none, .id, [.slot 19], none⟩])
    (.seq
     (.region [
       ⟨(some 21), none, .id, [.slot 2], none⟩,
       ⟨(some 22), none, .call f_script_Read, [.slot 21], none⟩,
       ⟨(some 20), none, .id, [.slot 22], none⟩,
       ⟨(some 23), none, .extract 0, [.slot 20], none⟩,
       ⟨(some 24), none, .extract 1, [.slot 20], none⟩,
       ⟨(some 4), none, .id, [.slot 23], none⟩,
       ⟨(some 5), none, .id, [.slot 24], none⟩])
     (.seq
      (.region [
        ⟨(some 26), none, .call f_script_Read, [.val (.str ⟨#[116, 105, 99, 107, 32, 48]⟩)], none⟩,
        ⟨(some 25), none, .id, [.slot 26], none⟩,
        ⟨(some 27), none, .extract 0, [.slot 25], none⟩,
        ⟨(some 28), none, .extract 1, [.slot 25], none⟩,
        ⟨(some 6), none, .id, [.slot 27], none⟩,
        ⟨(some 7), none, .id, [.slot 28], none⟩])
      (.seq
       (.region [
         ⟨(some 29), none, .id, [.slot 3], none⟩,
         ⟨(some 30), none, .id, [.slot 29], none⟩,
         ⟨(some 31), (some (30, true)), .id, [.slot 2], none⟩,
         ⟨(some 32), (some (30, true)), .bin .eql, [.slot 31, .val (.str ⟨#[116, 105, 99, 107, 32, 48, 32, 49, 10, 119, 114, 105, 116, 101, 32, 48, 32, 49, 10, 115, 101, 116, 32, 112, 114, 111, 112, 32, 97, 32, 112, 32, 39, 120, 32, 121, 39, 10]⟩)], none⟩,
         ⟨(some 33), none, .pick, [.slot 30, .slot 32, .val (.bool false)], none⟩,
         ⟨(some 34), none, .id, [.slot 33], none⟩,
         ⟨(some 35), (some (34, true)), .id, [.slot 5], none⟩,
         ⟨(some 36), (some (34, true)), .bin .eql, [.slot 35, .val (.int .i64 0)], none⟩,
         ⟨(some 37), none, .pick, [.slot 34, .slot 36, .val (.bool false)], none⟩,
         ⟨(some 38), none, .id, [.slot 37], none⟩,
         ⟨(some 39), (some (38, true)), .id, [.slot 1], none⟩,
         ⟨(some 40), (some (38, true)), .id, [.slot 4], none⟩,
         ⟨(some 41), (some (38, true)), .call f_hedgerowref29_Same, [.slot 39, .slot 40], none⟩,
         ⟨(some 42), none, .pick, [.slot 38, .slot 41, .val (.bool false)], none⟩,
         ⟨(some 43), none, .id, [.slot 42], none⟩,
         ⟨(some 44), (some (43, true)), .id, [.slot 7], none⟩,
         ⟨(some 45), (some (43, true)), .bin .eql, [.slot 44, .val (.int .i64 2)], none⟩,
         ⟨(some 46), none, .pick, [.slot 43, .slot 45, .val (.bool false)], none⟩,
         ⟨(some 0), none, .id, [.slot 46], none⟩])
       (.ret))))))
def F_hedgerowlaw29_fixed : IFun := ⟨47, [.slot 0], b_hedgerowlaw29_fixed, 8, 2⟩
theorem c_hedgerowlaw29_fixed : cFun Tryd.prog [2097158, 2097159] 2 f_hedgerowlaw29_fixed = some F_hedgerowlaw29_fixed := by kernel_rfl

def L0_hedgerowlaw29_few : ICode :=
 .seq
  (.region [
    ⟨(some 21), none, .bin .lss, [.slot 20, .slot 19], none⟩])
  (.seq
   (.cond (.slot 21)
    (.skip)
    (.exit 2))
   (.seq
    (.block 3
     (.seq
      (.region [
        ⟨(some 22), none, .ixaddr 9, [.slot 18, .slot 20], none⟩,
        ⟨(some 23), none, .load 9 true, [.slot 22], none⟩,
        ⟨(some 6), none, .allocL [(.int .i64 0), (.int .i64 0), (.str ⟨#[]⟩), (.str ⟨#[]⟩), (.str ⟨#[]⟩), (.str ⟨#[]⟩), (.int .i64 0), (.int .i64 0), (.str ⟨#[]⟩)], [], none⟩,
        ⟨none, none, .store 9, [.slot 6, .slot 23], none⟩])
      (.seq
       (.region [
         ⟨(some 24), none, .faddr 1, [.slot 6], none⟩,
         ⟨(some 25), none, .faddr 1, [.slot 24], none⟩,
         ⟨(some 26), none, .load 1 false, [.slot 25], none⟩,
         ⟨(some 27), none, .lenstr, [.slot 26], none⟩,
         ⟨(some 28), none, .faddr 1, [.slot 6], none⟩,
         ⟨(some 29), none, .faddr 2, [.slot 28], none⟩,
         ⟨(some 30), none, .load 1 false, [.slot 29], none⟩,
         ⟨(some 31), none, .lenstr, [.slot 30], none⟩,
         ⟨(some 32), none, .bin .add, [.slot 27, .slot 31], none⟩,
         ⟨(some 33), none, .faddr 1, [.slot 6], none⟩,
         ⟨(some 34), none, .faddr 3, [.slot 33], none⟩,
         ⟨(some 35), none, .load 1 false, [.slot 34], none⟩,
         ⟨(some 36), none, .lenstr, [.slot 35], none⟩,
         ⟨(some 37), none, .bin .add, [.slot 32, .slot 36], none⟩,
         ⟨(some 38), none, .faddr 1, [.slot 6], none⟩,
         ⟨(some 39), none, .faddr 4, [.slot 38], none⟩,
         ⟨(some 40), none, .load 1 false, [.slot 39], none⟩,
         ⟨(some 41), none, .lenstr, [.slot 40], none⟩,
         ⟨(some 42), none, .bin .add, [.slot 37, .slot 41], none⟩,
         ⟨(some 43), none, .faddr 6, [.slot 6], none⟩,
         ⟨(some 44), none, .faddr 2, [.slot 43], none⟩,
         ⟨(some 45), none, .load 1 false, [.slot 44], none⟩,
         ⟨(some 46), none, .lenstr, [.slot 45], none⟩,
         ⟨(some 47), none, .bin .add, [.slot 42, .slot 46], none⟩,
         ⟨(some 48), none, .bin .gtr, [.slot 47, .val (.int .i64 300)], none⟩])
       (.cond (.slot 48)
        (.seq
         (.region [
           ⟨(some 2), none, .id, [.val (.bool false)], none⟩])
         (.ret))
        (.skip)))))
    (.region [
      ⟨(some 49), none, .bin .add, [.slot 20, .val (.int .i64 1)], none⟩,
      ⟨(some 20), none, .id, [.slot 49], none⟩])))
def L1_hedgerowlaw29_few : ICode :=
 .seq
  (.region [
    ⟨(some 10), none, .bin .lss, [.slot 9, .slot 8], none⟩])
  (.seq
   (.cond (.slot 10)
    (.skip)
    (.exit 0))
   (.seq
    (.block 1
     (.seq
      (.region [
        ⟨(some 11), none, .ixaddr 8, [.slot 7, .slot 9], none⟩,
        ⟨(some 12), none, .load 8 true, [.slot 11], none⟩,
        ⟨(some 4), none, .allocL [(.int .i64 0), (.int .i64 0), (.int .i64 0), (.int .i64 0), (.int .i64 0), (.int .i64 0), (.int .u8 0), .nilsl], [], none⟩,
        ⟨none, none, .store 8, [.slot 4, .slot 12], none⟩])
      (.seq
       (.seq
        (.region [
          ⟨(some 13), none, .faddr 7, [.slot 4], none⟩,
          ⟨(some 14), none, .load 1 false, [.slot 13], none⟩,
          ⟨(some 15), none, .lensl, [.slot 14], none⟩,
          ⟨(some 16), none, .bin .gtr, [.slot 15, .val (.int .i64 70)], none⟩])
        (.cond (.slot 16)
         (.seq
          (.region [
            ⟨(some 2), none, .id, [.val (.bool false)], none⟩])
          (.ret))
         (.skip)))
       (.seq
        (.region [
          ⟨(some 17), none, .faddr 7, [.slot 4], none⟩,
          ⟨(some 18), none, .load 1 false, [.slot 17], none⟩,
          ⟨(some 19), none, .lensl, [.slot 18], none⟩,
          ⟨(some 20), none, .id, [.val (.int .i64 0)], none⟩])
        (.block 2
         (.loop L0_hedgerowlaw29_few))))))
    (.region [
      ⟨(some 50), none, .bin .add, [.slot 9, .val (.int .i64 1)], none⟩,
      ⟨(some 9), none, .id, [.slot 50], none⟩])))
def b_hedgerowlaw29_few : ICode :=
 .seq
  (.region [
    ⟨(some 2), none, .id, [.val (.bool false)], none⟩])
  (.seq
   (.seq
    (.region [
      ⟨(some 7), none, .id, [.slot 0], none⟩,
      ⟨(some 8), none, .lensl, [.slot 7], none⟩,
      ⟨(some 9), none, .id, [.val (.int .i64 0)], none⟩])
    (.block 0
     (.loop L1_hedgerowlaw29_few)))
   (.seq
    (.region [
      ⟨(some 51), none, .id, [.slot 0], none⟩,
      ⟨(some 52), none, .lensl, [.slot 51], none⟩,
      ⟨(some 53), none, .bin .leq, [.slot 52, .val (.int .i64 30)], none⟩,
      ⟨(some 2), none, .id, [.slot 53], none⟩])
    (.ret)))
def F_hedgerowlaw29_few : IFun := ⟨54, [.slot 2], b_hedgerowlaw29_few, 8, 0⟩
theorem c_hedgerowlaw29_few : cFun Tryd.prog [1048580, 1048582] 0 f_hedgerowlaw29_few = some F_hedgerowlaw29_few := by kernel_rfl

def L0_script_Text : ICode :=
 .seq
  (.region [
    ⟨(some 12), none, .bin .lss, [.slot 11, .slot 10], none⟩])
  (.seq
   (.cond (.slot 12)
    (.skip)
    (.exit 0))
   (.seq
    (.block 1
     (.seq
      (.region [
        ⟨(some 13), none, .ixaddr 8, [.slot 9, .slot 11], none⟩,
        ⟨(some 14), none, .load 8 true, [.slot 13], none⟩,
        ⟨(some 6), none, .allocL [(.int .i64 0), (.int .i64 0), (.int .i64 0), (.int .i64 0), (.int .i64 0), (.int .i64 0), (.int .u8 0), .nilsl], [], none⟩,
        ⟨none, none, .store 8, [.slot 6, .slot 14], none⟩])
      (.seq
       (.region [
         ⟨(some 16), none, .load 8 true, [.slot 6], none⟩,
         ⟨(some 17), none, .call f_script_step, [.slot 16], none⟩,
         ⟨(some 15), none, .id, [.slot 17], none⟩,
         ⟨(some 18), none, .extract 0, [.slot 15], none⟩,
         ⟨(some 19), none, .extract 1, [.slot 15], none⟩,
         ⟨(some 7), none, .id, [.slot 18], none⟩,
         ⟨(some 8), none, .id, [.slot 19], none⟩])
       (.seq
        (.seq
         (.region [
           ⟨(some 20), none, .id, [.slot 8], none⟩,
           ⟨(some 21), none, .un .not, [.slot 20], none⟩])
         (.cond (.slot 21)
          (.seq
           (.region [
             ⟨(some 2), none, .id, [.val (.str ⟨#[]⟩)], none⟩,
             ⟨(some 3), none, .id, [.val (.bool false)], none⟩])
           (.ret))
          (.skip)))
        (.region [
          ⟨(some 22), none, .id, [.slot 7], none⟩,
          ⟨(some 23), none, .call f_strings_Builder_WriteString, [.slot 4, .slot 22], none⟩])))))
    (.region [
      ⟨(some 24), none, .bin .add, [.slot 11, .val (.int .i64 1)], none⟩,
      ⟨(some 11), none, .id, [.slot 24], none⟩])))
def b_script_Text : ICode :=
 .seq
  (.region [
    ⟨(some 2), none, .id, [.val (.str ⟨#[]⟩)], none⟩,
    ⟨(some 3), none, .id, [.val (.bool false)], none⟩])
  (.seq
   (.region [
     ⟨(some 4), none, .allocH 43 [.nilptr, .nilsl], [], none⟩])
   (.seq
    (.seq
     (.region [
       ⟨(some 9), none, .id, [.slot 0], none⟩,
       ⟨(some 10), none, .lensl, [.slot 9], none⟩,
       ⟨(some 11), none, .id, [.val (.int .i64 0)], none⟩])
     (.block 0
      (.loop L0_script_Text)))
    (.seq
     (.region [
       ⟨(some 25), none, .call f_strings_Builder_String, [.slot 4], none⟩,
       ⟨(some 2), none, .id, [.slot 25], none⟩,
       ⟨(some 3), none, .id, [.val (.bool true)], none⟩])
     (.ret))))
def F_script_Text : IFun := ⟨26, [.slot 2, .slot 3], b_script_Text, 8, 1⟩
theorem c_script_Text : cFun Tryd.prog [4, 1048582, 2097161, 2097163] 1 f_script_Text = some F_script_Text := by kernel_rfl

def L0_script_Read : ICode :=
 .seq
  (.seq
   (.region [
     ⟨(some 11), none, .id, [.slot 4], none⟩,
     ⟨(some 12), none, .nilchk, [.slot 11], none⟩,
     ⟨(some 13), none, .faddr 0, [.slot 12], none⟩,
     ⟨(some 14), none, .load 1 false, [.slot 13], none⟩,
     ⟨(some 15), none, .bin .neq, [.slot 14, .val (.str ⟨#[]⟩)], none⟩,
     ⟨(some 16), none, .id, [.slot 15], none⟩,
     ⟨(some 17), (some (16, true)), .id, [.slot 4], none⟩,
     ⟨(some 18), (some (16, true)), .nilchk, [.slot 17], none⟩,
     ⟨(some 19), (some (16, true)), .faddr 1, [.slot 18], none⟩,
     ⟨(some 20), (some (16, true)), .load 1 false, [.slot 19], none⟩,
     ⟨(some 21), (some (16, true)), .un .not, [.slot 20], none⟩,
     ⟨(some 22), none, .pick, [.slot 16, .slot 21, .val (.bool false)], none⟩])
   (.cond (.slot 22)
    (.skip)
    (.exit 0)))
  (.block 1
   (.region [
     ⟨(some 23), none, .id, [.slot 5], none⟩,
     ⟨(some 24), none, .id, [.slot 4], none⟩,
     ⟨(some 25), none, .call f_script_reader_step, [.slot 24], none⟩,
     ⟨(some 26), none, .buildSl 8 1 (.agg [(.int .i64 0), (.int .i64 0), (.int .i64 0), (.int .i64 0), (.int .i64 0), (.int .i64 0), (.int .u8 0), .nilsl]) [0], [.slot 25], none⟩,
     ⟨(some 27), none, .append 33 8 80, [.slot 23, .slot 26], none⟩,
     ⟨(some 5), none, .id, [.slot 27], none⟩]))
def b_script_Read : ICode :=
 .seq
  (.region [
    ⟨(some 2), none, .id, [.val .nilsl], none⟩,
    ⟨(some 3), none, .id, [.val (.int .i64 0)], none⟩])
  (.seq
   (.region [
     ⟨(some 8), none, .id, [.slot 0], none⟩,
     ⟨(some 9), none, .build [(.str ⟨#[]⟩), (.bool false)] [(0, 1)], [.slot 8], none⟩,
     ⟨(some 10), none, .boxH 52, [.slot 9], none⟩,
     ⟨(some 4), none, .id, [.slot 10], none⟩])
   (.seq
    (.region [
      ⟨(some 5), none, .id, [.val .nilsl], none⟩])
    (.seq
     (.block 0
      (.loop L0_script_Read))
     (.seq
      (.seq
       (.region [
         ⟨(some 29), none, .id, [.slot 5], none⟩,
         ⟨(some 30), none, .call f_script_Text, [.slot 29], none⟩,
         ⟨(some 28), none, .id, [.slot 30], none⟩,
         ⟨(some 31), none, .extract 0, [.slot 28], none⟩,
         ⟨(some 32), none, .extract 1, [.slot 28], none⟩,
         ⟨(some 6), none, .id, [.slot 31], none⟩,
         ⟨(some 7), none, .id, [.slot 32], none⟩])
       (.seq
        (.region [
          ⟨(some 33), none, .id, [.slot 4], none⟩,
          ⟨(some 34), none, .nilchk, [.slot 33], none⟩,
          ⟨(some 35), none, .faddr 1, [.slot 34], none⟩,
          ⟨(some 36), none, .load 1 false, [.slot 35], none⟩,
          ⟨(some 37), none, .id, [.slot 36], none⟩,
          ⟨(some 38), (some (37, false)), .id, [.slot 7], none⟩,
          ⟨(some 39), (some (37, false)), .un .not, [.slot 38], none⟩,
          ⟨(some 40), none, .pick, [.slot 37, .val (.bool true), .slot 39], none⟩,
          ⟨(some 41), none, .id, [.slot 40], none⟩,
          ⟨(some 42), (some (41, false)), .id, [.slot 6], none⟩,
          ⟨(some 43), (some (41, false)), .id, [.slot 0], none⟩,
          ⟨(some 44), (some (41, false)), .bin .neq, [.slot 42, .slot 43], none⟩,
          ⟨(some 45), none, .pick, [.slot 41, .val (.bool true), .slot 44], none⟩])
        (.cond (.slot 45)
         (.seq
          (.region [
            ⟨(some 2), none, .id, [.val .nilsl], none⟩,
            ⟨(some 3), none, .id, [.val (.int .i64 2)], none⟩])
          (.ret))
         (.skip))))
      (.seq
       (.region [
         ⟨(some 46), none, .id, [.slot 5], none⟩,
         ⟨(some 2), none, .id, [.slot 46], none⟩,
         ⟨(some 3), none, .id, [.val (.int .i64 0)], none⟩])
       (.ret))))))
def F_script_Read : IFun := ⟨47, [.slot 2, .slot 3], b_script_Read, 8, 1⟩
theorem c_script_Read : cFun Tryd.prog [10, 2097158] 1 f_script_Read = some F_script_Read := by kernel_rfl

def L0_hedgerowref29_Same : ICode :=
 .seq
  (.region [
    ⟨(some 87), none, .bin .lss, [.slot 86, .slot 85], none⟩])
  (.seq
   (.cond (.slot 87)
    (.skip)
    (.exit 2))
   (.seq
    (.block 3
     (.seq
      (.region [
        ⟨(some 88), none, .id, [.slot 86], none⟩,
        ⟨(some 8), none, .id, [.slot 88], none⟩])
      (.seq
       (.region [
         ⟨(some 89), none, .faddr 7, [.slot 6], none⟩,
         ⟨(some 90), none, .load 1 false, [.slot 89], (some (.loc 6))⟩,
         ⟨(some 91), none, .id, [.slot 8], none⟩,
         ⟨(some 92), none, .ixaddr 9, [.slot 90, .slot 91], none⟩,
         ⟨(some 93), none, .load 9 true, [.slot 92], (some (.el))⟩,
         ⟨(some 94), none, .faddr 7, [.slot 7], none⟩,
         ⟨(some 95), none, .load 1 false, [.slot 94], (some (.loc 7))⟩,
         ⟨(some 96), none, .id, [.slot 8], none⟩,
         ⟨(some 97), none, .ixaddr 9, [.slot 95, .slot 96], none⟩,
         ⟨(some 98), none, .load 9 true, [.slot 97], (some (.el))⟩,
         ⟨(some 99), none, .eqv true [(.int .i64), (.int .i64), .str, .str, .str, .str, (.int .i64), (.int .i64), .str], [.slot 93, .slot 98], none⟩])
       (.cond (.slot 99)
        (.seq
         (.region [
           ⟨(some 4), none, .id, [.val (.bool false)], none⟩])
         (.ret))
        (.skip)))))
    (.region [
      ⟨(some 100), none, .bin .add, [.slot 86, .val (.int .i64 1)], none⟩,
      ⟨(some 86), none, .id, [.slot 100], none⟩])))
def L1_hedgerowref29_Same : ICode :=
 .seq
  (.region [
    ⟨(some 17), none, .bin .lss, [.slot 16, .slot 15], none⟩])
  (.seq
   (.cond (.slot 17)
    (.skip)
    (.exit 0))
   (.seq
    (.block 1
     (.seq
      (.region [
        ⟨(some 18), none, .id, [.slot 16], none⟩,
        ⟨(some 5), none, .id, [.slot 18], none⟩])
      (.seq
       (.seq
        (.region [
          ⟨(some 19), none, .id, [.slot 0], none⟩,
          ⟨(some 20), none, .id, [.slot 5], none⟩,
          ⟨(some 21), none, .ixaddr 8, [.slot 19, .slot 20], none⟩,
          ⟨(some 22), none, .load 8 true, [.slot 21], (some (.el))⟩,
          ⟨(some 23), none, .id, [.slot 1], none⟩,
          ⟨(some 24), none, .id, [.slot 5], none⟩,
          ⟨(some 25), none, .ixaddr 8, [.slot 23, .slot 24], none⟩,
          ⟨(some 26), none, .load 8 true, [.slot 25], (some (.el))⟩,
          ⟨(some 6), none, .allocK 8 [(.int .i64 0), (.int .i64 0), (.int .i64 0), (.int .i64 0), (.int .i64 0), (.int .i64 0), (.int .u8 0), .nilsl], [], none⟩,
          ⟨(some 7), none, .allocK 9 [(.int .i64 0), (.int .i64 0), (.int .i64 0), (.int .i64 0), (.int .i64 0), (.int .i64 0), (.int .u8 0), .nilsl], [], none⟩,
          ⟨none, none, .store 8, [.slot 6, .slot 22], (some (.loc 6))⟩,
          ⟨none, none, .store 8, [.slot 7, .slot 26], (some (.loc 7))⟩])
        (.bump 12))
       (.seq
        (.seq
         (.region [
           ⟨(some 27), none, .faddr 0, [.slot 6], none⟩,
           ⟨(some 28), none, .load 1 false, [.slot 27], none⟩,
           ⟨(some 29), none, .faddr 0, [.slot 7], none⟩,
           ⟨(some 30), none, .load 1 false, [.slot 29], none⟩,
           ⟨(some 31), none, .bin .neq, [.slot 28, .slot 30], none⟩,
           ⟨(some 32), none, .id, [.slot 31], none⟩,
           ⟨(some 33), (some (32, false)), .faddr 1, [.slot 6], none⟩,
           ⟨(some 34), (some (32, false)), .load 1 false, [.slot 33], none⟩,
           ⟨(some 35), (some (32, false)), .faddr 1, [.slot 7], none⟩,
           ⟨(some 36), (some (32, false)), .load 1 false, [.slot 35], none⟩,
           ⟨(some 37), (some (32, false)), .bin .neq, [.slot 34, .slot 36], none⟩,
           ⟨(some 38), none, .pick, [.slot 32, .val (.bool true), .slot 37], none⟩,
           ⟨(some 39), none, .id, [.slot 38], none⟩,
           ⟨(some 40), (some (39, false)), .faddr 2, [.slot 6], none⟩,
           ⟨(some 41), (some (39, false)), .load 1 false, [.slot 40], none⟩,
           ⟨(some 42), (some (39, false)), .faddr 2, [.slot 7], none⟩,
           ⟨(some 43), (some (39, false)), .load 1 false, [.slot 42], none⟩,
           ⟨(some 44), (some (39, false)), .bin .neq, [.slot 41, .slot 43], none⟩,
           ⟨(some 45), none, .pick, [.slot 39, .val (.bool true), .slot 44], none⟩,
           ⟨(some 46), none, .id, [.slot 45], none⟩,
           ⟨(some 47), (some (46, false)), .faddr 3, [.slot 6], none⟩,
           ⟨(some 48), (some (46, false)), .load 1 false, [.slot 47], none⟩,
           ⟨(some 49), (some (46, false)), .faddr 3, [.slot 7], none⟩,
           ⟨(some 50), (some (46, false)), .load 1 false, [.slot 49], none⟩,
           ⟨(some 51), (some (46, false)), .bin .neq, [.slot 48, .slot 50], none⟩,
           ⟨(some 52), none, .pick, [.slot 46, .val (.bool true), .slot 51], none⟩,
           ⟨(some 53), none, .id, [.slot 52], none⟩,
           ⟨(some 54), (some (53, false)), .faddr 4, [.slot 6], none⟩,
           ⟨(some 55), (some (53, false)), .load 1 false, [.slot 54], none⟩,
           ⟨(some 56), (some (53, false)), .faddr 4, [.slot 7], none⟩,
           ⟨(some 57), (some (53, false)), .load 1 false, [.slot 56], none⟩,
           ⟨(some 58), (some (53, false)), .bin .neq, [.slot 55, .slot 57], none⟩,
           ⟨(some 59), none, .pick, [.slot 53, .val (.bool true), .slot 58], none⟩,
           ⟨(some 60), none, .id, [.slot 59], none⟩,
           ⟨(some 61), (some (60, false)), .faddr 5, [.slot 6], none⟩,
           ⟨(some 62), (some (60, false)), .load 1 false, [.slot 61], none⟩,
           ⟨(some 63), (some (60, false)), .faddr 5, [.slot 7], none⟩,
           ⟨(some 64), (some (60, false)), .load 1 false, [.slot 63], none⟩,
           ⟨(some 65), (some (60, false)), .bin .neq, [.slot 62, .slot 64], none⟩,
           ⟨(some 66), none, .pick, [.slot 60, .val (.bool true), .slot 65], none⟩,
           ⟨(some 67), none, .id, [.slot 66], none⟩,
           ⟨(some 68), (some (67, false)), .faddr 6, [.slot 6], none⟩,
           ⟨(some 69), (some (67, false)), .load 1 false, [.slot 68], none⟩,
           ⟨(some 70), (some (67, false)), .faddr 6, [.slot 7], none⟩,
           ⟨(some 71), (some (67, false)), .load 1 false, [.slot 70], none⟩,
           ⟨(some 72), (some (67, false)), .bin .neq, [.slot 69, .slot 71], none⟩,
           ⟨(some 73), none, .pick, [.slot 67, .val (.bool true), .slot 72], none⟩,
           ⟨(some 74), none, .id, [.slot 73], none⟩,
           ⟨(some 75), (some (74, false)), .faddr 7, [.slot 6], none⟩,
           ⟨(some 76), (some (74, false)), .load 1 false, [.slot 75], none⟩,
           ⟨(some 77), (some (74, false)), .lensl, [.slot 76], none⟩,
           ⟨(some 78), (some (74, false)), .faddr 7, [.slot 7], none⟩,
           ⟨(some 79), (some (74, false)), .load 1 false, [.slot 78], none⟩,
           ⟨(some 80), (some (74, false)), .lensl, [.slot 79], none⟩,
           ⟨(some 81), (some (74, false)), .bin .neq, [.slot 77, .slot 80], none⟩,
           ⟨(some 82), none, .pick, [.slot 74, .val (.bool true), .slot 81], none⟩])
         (.cond (.slot 82)
          (.seq
           (.region [
             ⟨(some 4), none, .id, [.val (.bool false)], none⟩])
           (.ret))
          (.skip)))
        (.seq
         (.region [
           ⟨(some 83), none, .faddr 7, [.slot 6], none⟩,
           ⟨(some 84), none, .load 1 false, [.slot 83], none⟩,
           ⟨(some 85), none, .lensl, [.slot 84], none⟩,
           ⟨(some 86), none, .id, [.val (.int .i64 0)], none⟩])
         (.block 2
          (.loop L0_hedgerowref29_Same)))))))
    (.region [
      ⟨(some 101), none, .bin .add, [.slot 16, .val (.int .i64 1)], none⟩,
      ⟨(some 16), none, .id, [.slot 101], none⟩])))
def b_hedgerowref29_Same : ICode :=
 .seq
  (.region [
    ⟨(some 4), none, .id, [.val (.bool false)], none⟩])
  (.seq
   (.seq
    (.region [
      ⟨(some 9), none, .id, [.slot 0], none⟩,
      ⟨(some 10), none, .lensl, [.slot 9], none⟩,
      ⟨(some 11), none, .id, [.slot 1], none⟩,
      ⟨(some 12), none, .lensl, [.slot 11], none⟩,
      ⟨(some 13), none, .bin .neq, [.slot 10, .slot 12], none⟩])
    (.cond (.slot 13)
     (.seq
      (.region [
        ⟨(some 4), none, .id, [.val (.bool false)], none⟩])
      (.ret))
     (.skip)))
   (.seq
    (.seq
     (.region [
       ⟨(some 14), none, .id, [.slot 0], none⟩,
       ⟨(some 15), none, .lensl, [.slot 14], none⟩,
       ⟨(some 16), none, .id, [.val (.int .i64 0)], none⟩])
     (.block 0
      (.loop L1_hedgerowref29_Same)))
    (.seq
     (.region [
       ⟨(some 4), none, .id, [.val (.bool true)], none⟩])
     (.ret))))
def F_hedgerowref29_Same : IFun := ⟨102, [.slot 4], b_hedgerowref29_Same, 8, 0⟩
theorem c_hedgerowref29_Same : cFun Tryd.prog [1048582, 1048583] 0 f_hedgerowref29_Same = some F_hedgerowref29_Same := by kernel_rfl

def L0_script_step : ICode :=
 .seq
  (.region [
    ⟨(some 36), none, .bin .lss, [.slot 35, .slot 34], none⟩])
  (.seq
   (.cond (.slot 36)
    (.skip)
    (.exit 0))
   (.seq
    (.block 1
     (.seq
      (.region [
        ⟨(some 37), none, .ixaddr 1, [.slot 33, .slot 35], none⟩,
        ⟨(some 38), none, .load 1 false, [.slot 37], none⟩,
        ⟨(some 6), none, .id, [.slot 38], none⟩])
      (.seq
       (.seq
        (.region [
          ⟨(some 39), none, .id, [.slot 6], none⟩,
          ⟨(some 40), none, .nilchk, [.slot 39], none⟩,
          ⟨(some 41), none, .load 1 false, [.slot 40], (some (.heap))⟩,
          ⟨(some 42), none, .id, [.slot 6], none⟩,
          ⟨(some 43), none, .nilchk, [.slot 42], none⟩,
          ⟨(some 44), none, .load 1 false, [.slot 43], (some (.heap))⟩,
          ⟨(some 45), none, .un .neg, [.slot 44], none⟩,
          ⟨(some 46), none, .minmax true, [.slot 41, .slot 45], none⟩,
          ⟨(some 47), none, .bin .gtr, [.slot 46, .val (.int .i64 999999999)], none⟩,
          ⟨(some 48), none, .id, [.slot 47], none⟩,
          ⟨(some 49), (some (48, false)), .id, [.slot 6], none⟩,
          ⟨(some 50), (some (48, false)), .nilchk, [.slot 49], none⟩,
          ⟨(some 51), (some (48, false)), .load 1 false, [.slot 50], (some (.heap))⟩,
          ⟨(some 52), (some (48, false)), .bin .lss, [.slot 51, .val (.int .i64 (-999999999))], none⟩,
          ⟨(some 53), none, .pick, [.slot 48, .val (.bool true), .slot 52], none⟩])
        (.cond (.slot 53)
         (.seq
          (.region [
            ⟨(some 2), none, .id, [.val (.str ⟨#[]⟩)], none⟩,
            ⟨(some 3), none, .id, [.val (.bool false)], none⟩])
          (.ret))
         (.skip)))
       (.region [
         ⟨(some 54), none, .id, [.slot 4], none⟩,
         ⟨(some 55), none, .id, [.slot 6], none⟩,
         ⟨(some 56), none, .nilchk, [.slot 55], none⟩,
         ⟨(some 57), none, .load 1 false, [.slot 56], none⟩,
         ⟨(some 58), none, .call f_strconv_Itoa, [.slot 57], none⟩,
         ⟨(some 59), none, .buildSl 1 1 (.str ⟨#[]⟩) [0], [.slot 58], none⟩,
         ⟨(some 60), none, .append 9 1 16, [.slot 54, .slot 59], none⟩,
         ⟨(some 4), none, .id, [.slot 60], none⟩]))))
    (.region [
      ⟨(some 61), none, .bin .add, [.slot 35, .val (.int .i64 1)], none⟩,
      ⟨(some 35), none, .id, [.slot 61], none⟩])))
def L1_script_step : ICode :=
 .seq
  (.region [
    ⟨(some 89), none, .bin .lss, [.slot 88, .slot 87], none⟩])
  (.seq
   (.cond (.slot 89)
    (.skip)
    (.exit 2))
   (.seq
    (.block 3
     (.seq
      (.region [
        ⟨(some 90), none, .ixaddr 9, [.slot 86, .slot 88], none⟩,
        ⟨(some 91), none, .load 9 true, [.slot 90], none⟩,
        ⟨(some 9), none, .allocL [(.int .i64 0), (.int .i64 0), (.str ⟨#[]⟩), (.str ⟨#[]⟩), (.str ⟨#[]⟩), (.str ⟨#[]⟩), (.int .i64 0), (.int .i64 0), (.str ⟨#[]⟩)], [], none⟩,
        ⟨none, none, .store 9, [.slot 9, .slot 91], none⟩])
      (.seq
       (.region [
         ⟨(some 93), none, .load 9 true, [.slot 9], none⟩,
         ⟨(some 94), none, .call f_script_Change, [.slot 93], none⟩,
         ⟨(some 92), none, .id, [.slot 94], none⟩,
         ⟨(some 95), none, .extract 0, [.slot 92], none⟩,
         ⟨(some 96), none, .extract 1, [.slot 92], none⟩,
         ⟨(some 10), none, .id, [.slot 95], none⟩,
         ⟨(some 11), none, .id, [.slot 96], none⟩])
       (.seq
        (.seq
         (.region [
           ⟨(some 97), none, .id, [.slot 11], none⟩,
           ⟨(some 98), none, .un .not, [.slot 97], none⟩])
         (.cond (.slot 98)
          (.seq
           (.region [
             ⟨(some 2), none, .id, [.val (.str ⟨#[]⟩)], none⟩,
             ⟨(some 3), none, .id, [.val (.bool false)], none⟩])
           (.ret))
          (.skip)))
        (.region [
          ⟨(some 99), none, .id, [.slot 7], none⟩,
          ⟨(some 100), none, .id, [.slot 10], none⟩,
          ⟨(some 101), none, .buildSl 1 1 (.str ⟨#[]⟩) [0], [.slot 100], none⟩,
          ⟨(some 102), none, .append 9 1 16, [.slot 99, .slot 101], none⟩,
          ⟨(some 7), none, .id, [.slot 102], none⟩])))))
    (.region [
      ⟨(some 103), none, .bin .add, [.slot 88, .val (.int .i64 1)], none⟩,
      ⟨(some 88), none, .id, [.slot 103], none⟩])))
def b_script_step : ICode :=
 .seq
  (.region [
    ⟨(some 1), none, .boxH 33, [.slot 0], none⟩,
    ⟨(some 2), none, .id, [.val (.str ⟨#[]⟩)], none⟩,
    ⟨(some 3), none, .id, [.val (.bool false)], none⟩])
  (.seq
   (.seq
    (.region [
      ⟨(some 12), none, .faddr 0, [.slot 1], none⟩,
      ⟨(some 13), none, .load 1 false, [.slot 12], (some (.heap))⟩,
      ⟨(some 14), none, .bin .lss, [.slot 13, .val (.int .i64 1)], none⟩,
      ⟨(some 15), none, .id, [.slot 14], none⟩,
      ⟨(some 16), (some (15, false)), .faddr 0, [.slot 1], none⟩,
      ⟨(some 17), (some (15, false)), .load 1 false, [.slot 16], (some (.heap))⟩,
      ⟨(some 18), (some (15, false)), .callP f_script_names, [], none⟩,
      ⟨(some 19), (some (15, false)), .lensl, [.slot 18], none⟩,
      ⟨(some 20), (some (15, false)), .bin .geq, [.slot 17, .slot 19], none⟩,
      ⟨(some 21), none, .pick, [.slot 15, .val (.bool true), .slot 20], none⟩,
      ⟨(some 22), none, .id, [.slot 21], none⟩,
      ⟨(some 23), (some (22, false)), .load 8 true, [.slot 1], (some (.heap))⟩,
      ⟨(some 24), (some (22, false)), .callP f_script_plain, [.slot 23], none⟩,
      ⟨(some 25), (some (22, false)), .un .not, [.slot 24], none⟩,
      ⟨(some 26), none, .pick, [.slot 22, .val (.bool true), .slot 25], none⟩])
    (.cond (.slot 26)
     (.seq
      (.region [
        ⟨(some 2), none, .id, [.val (.str ⟨#[]⟩)], none⟩,
        ⟨(some 3), none, .id, [.val (.bool false)], none⟩])
      (.ret))
     (.skip)))
   (.seq
    (.region [
      ⟨(some 27), none, .callP f_script_names, [], none⟩,
      ⟨(some 28), none, .faddr 0, [.slot 1], none⟩,
      ⟨(some 29), none, .load 1 false, [.slot 28], (some (.heap))⟩,
      ⟨(some 30), none, .ixaddr 1, [.slot 27, .slot 29], none⟩,
      ⟨(some 31), none, .load 1 false, [.slot 30], (some (.el))⟩,
      ⟨(some 32), none, .buildSl 1 1 (.str ⟨#[]⟩) [0], [.slot 31], none⟩,
      ⟨(some 4), none, .id, [.slot 32], none⟩])
    (.seq
     (.seq
      (.region [
        ⟨(some 33), none, .call f_script_own, [.slot 1], none⟩,
        ⟨(some 34), none, .lensl, [.slot 33], none⟩,
        ⟨(some 35), none, .id, [.val (.int .i64 0)], none⟩])
      (.block 0
       (.loop L0_script_step)))
     (.seq
      (.seq
       (.region [
         ⟨(some 62), none, .faddr 0, [.slot 1], none⟩,
         ⟨(some 63), none, .load 1 false, [.slot 62], none⟩,
         ⟨(some 64), none, .call f_script_turned, [.slot 63], none⟩])
       (.cond (.slot 64)
        (.region [
          ⟨(some 65), none, .id, [.slot 4], none⟩,
          ⟨(some 66), none, .faddr 6, [.slot 1], none⟩,
          ⟨(some 67), none, .load 1 false, [.slot 66], none⟩,
          ⟨(some 68), none, .conv .i64, [.slot 67], none⟩,
          ⟨(some 69), none, .call f_strconv_Itoa, [.slot 68], none⟩,
          ⟨(some 70), none, .buildSl 1 1 (.str ⟨#[]⟩) [0], [.slot 69], none⟩,
          ⟨(some 71), none, .append 9 1 16, [.slot 65, .slot 70], none⟩,
          ⟨(some 4), none, .id, [.slot 71], none⟩])
        (.skip)))
      (.seq
       (.seq
        (.region [
          ⟨(some 72), none, .faddr 0, [.slot 1], none⟩,
          ⟨(some 73), none, .load 1 false, [.slot 72], none⟩,
          ⟨(some 74), none, .bin .eql, [.slot 73, .val (.int .i64 1)], none⟩])
        (.cond (.slot 74)
         (.region [
           ⟨(some 75), none, .id, [.slot 4], none⟩,
           ⟨(some 76), none, .faddr 7, [.slot 1], none⟩,
           ⟨(some 77), none, .load 1 false, [.slot 76], none⟩,
           ⟨(some 78), none, .lensl, [.slot 77], none⟩,
           ⟨(some 79), none, .call f_strconv_Itoa, [.slot 78], none⟩,
           ⟨(some 80), none, .buildSl 1 1 (.str ⟨#[]⟩) [0], [.slot 79], none⟩,
           ⟨(some 81), none, .append 9 1 16, [.slot 75, .slot 80], none⟩,
           ⟨(some 4), none, .id, [.slot 81], none⟩])
         (.skip)))
       (.seq
        (.region [
          ⟨(some 82), none, .id, [.slot 4], none⟩,
          ⟨(some 83), none, .call f_strings_Join, [.slot 82, .val (.str ⟨#[32]⟩)], none⟩,
          ⟨(some 84), none, .buildSl 1 1 (.str ⟨#[]⟩) [0], [.slot 83], none⟩,
          ⟨(some 7), none, .id, [.slot 84], none⟩])
        (.seq
         (.seq
          (.region [
            ⟨(some 85), none, .faddr 7, [.slot 1], none⟩,
            ⟨(some 86), none, .load 1 false, [.slot 85], none⟩,
            ⟨(some 87), none, .lensl, [.slot 86], none⟩,
            ⟨(some 88), none, .id, [.val (.int .i64 0)], none⟩])
          (.block 2
           (.loop L1_script_step)))
         (.seq
          (.region [
            ⟨(some 104), none, .id, [.slot 7], none⟩,
            ⟨(some 105), none, .call f_strings_Join, [.slot 104, .val (.str ⟨#[10]⟩)], none⟩,
            ⟨(some 106), none, .bin .add, [.slot 105, .val (.str ⟨#[10]⟩)], none⟩,
            ⟨(some 2), none, .id, [.slot 106], none⟩,
            ⟨(some 3), none, .id, [.val (.bool true)], none⟩])
          (.ret)))))))))
def F_script_step : IFun := ⟨107, [.slot 2, .slot 3], b_script_step, 8, 1⟩
theorem c_script_step : cFun Tryd.prog [1, 1048585, 2097165, 2097166, 2097168, 2097170, 2097171] 1 f_script_step = some F_script_step := by kernel_rfl

def b_strings_Builder_WriteString : ICode :=
 .seq
  (.region [
    ⟨(some 4), none, .id, [.val (.int .i64 0)], none⟩,
    ⟨(some 5), none, .id, [.val .niliface], none⟩])
  (.seq
   (.region [
     ⟨(some 6), none, .id, [.slot 0], none⟩,
     ⟨(some 7), none, .call f_strings_Builder_copyCheck, [.slot 6], none⟩])
   (.seq
    (.region [
      ⟨(some 8), none, .id, [.slot 0], none⟩,
      ⟨(some 9), none, .id, [.slot 0], none⟩,
      ⟨(some 10), none, .nilchk, [.slot 9], none⟩,
      ⟨(some 11), none, .faddr 1, [.slot 10], none⟩,
      ⟨(some 12), none, .load 1 false, [.slot 11], none⟩,
      ⟨(some 13), none, .id, [.slot 1], none⟩,
      ⟨(some 14), none, .appendS 5, [.slot 12, .slot 13], none⟩,
      ⟨(some 15), none, .nilchk, [.slot 8], none⟩,
      ⟨(some 16), none, .faddr 1, [.slot 15], none⟩,
      ⟨none, none, .store 1, [.slot 16, .slot 14], none⟩])
    (.seq
     (.region [
       ⟨(some 17), none, .id, [.slot 1], none⟩,
       ⟨(some 18), none, .lenstr, [.slot 17], none⟩,
       ⟨(some 4), none, .id, [.slot 18], none⟩,
       ⟨(some 5), none, .id, [.val .niliface], none⟩])
     (.ret))))
def F_strings_Builder_WriteString : IFun := ⟨19, [.slot 4, .slot 5], b_strings_Builder_WriteString, 8, 0⟩
theorem c_strings_Builder_WriteString : cFun Tryd.prog [] 0 f_strings_Builder_WriteString = some F_strings_Builder_WriteString := by kernel_rfl

def F_strings_Builder_String : IFun := ⟨8, [], .trap, 5, 17⟩

def L0_script_reader_step : ICode :=
 .seq
  (.region [
    ⟨(some 25), none, .bin .lss, [.slot 24, .slot 23], none⟩])
  (.seq
   (.cond (.slot 25)
    (.skip)
    (.exit 0))
   (.seq
    (.block 1
     (.seq
      (.region [
        ⟨(some 26), none, .ixaddr 1, [.slot 22, .slot 24], none⟩,
        ⟨(some 27), none, .load 1 false, [.slot 26], none⟩,
        ⟨(some 5), none, .id, [.slot 27], none⟩])
      (.region [
        ⟨(some 28), none, .id, [.slot 5], none⟩,
        ⟨(some 29), none, .id, [.slot 0], none⟩,
        ⟨(some 30), none, .call f_script_reader_number, [.slot 29, .slot 3], none⟩,
        ⟨(some 31), none, .nilchk, [.slot 28], none⟩,
        ⟨none, none, .store 1, [.slot 31, .slot 30], none⟩])))
    (.region [
      ⟨(some 32), none, .bin .add, [.slot 24, .val (.int .i64 1)], none⟩,
      ⟨(some 24), none, .id, [.slot 32], none⟩])))
def L1_script_reader_step : ICode :=
 .seq
  (.region [
    ⟨(some 64), none, .bin .lss, [.slot 63, .slot 62], none⟩])
  (.seq
   (.cond (.slot 64)
    (.skip)
    (.exit 2))
   (.seq
    (.block 3
     (.seq
      (.region [
        ⟨(some 66), none, .id, [.slot 0], none⟩,
        ⟨(some 67), none, .call f_script_reader_line, [.slot 66], none⟩,
        ⟨(some 68), none, .call f_script_ReadChange, [.slot 67], none⟩,
        ⟨(some 65), none, .id, [.slot 68], none⟩,
        ⟨(some 69), none, .extract 0, [.slot 65], none⟩,
        ⟨(some 70), none, .extract 1, [.slot 65], none⟩,
        ⟨(some 7), none, .allocL [(.int .i64 0), (.int .i64 0), (.str ⟨#[]⟩), (.str ⟨#[]⟩), (.str ⟨#[]⟩), (.str ⟨#[]⟩), (.int .i64 0), (.int .i64 0), (.str ⟨#[]⟩)], [], none⟩,
        ⟨none, none, .store 9, [.slot 7, .slot 69], none⟩,
        ⟨(some 8), none, .id, [.slot 70], none⟩])
      (.seq
       (.seq
        (.region [
          ⟨(some 71), none, .id, [.slot 0], none⟩,
          ⟨(some 72), none, .id, [.slot 0], none⟩,
          ⟨(some 73), none, .nilchk, [.slot 72], none⟩,
          ⟨(some 74), none, .faddr 1, [.slot 73], none⟩,
          ⟨(some 75), none, .load 1 false, [.slot 74], none⟩,
          ⟨(some 76), none, .id, [.slot 75], none⟩,
          ⟨(some 77), (some (76, false)), .id, [.slot 8], none⟩,
          ⟨(some 78), (some (76, false)), .un .not, [.slot 77], none⟩,
          ⟨(some 79), none, .pick, [.slot 76, .val (.bool true), .slot 78], none⟩,
          ⟨(some 80), none, .nilchk, [.slot 71], none⟩,
          ⟨(some 81), none, .faddr 1, [.slot 80], none⟩,
          ⟨none, none, .store 1, [.slot 81, .slot 79], none⟩])
        (.seq
         (.region [
           ⟨(some 82), none, .id, [.slot 0], none⟩,
           ⟨(some 83), none, .nilchk, [.slot 82], none⟩,
           ⟨(some 84), none, .faddr 1, [.slot 83], none⟩,
           ⟨(some 85), none, .load 1 false, [.slot 84], none⟩])
         (.cond (.slot 85)
          (.exit 2)
          (.skip))))
       (.region [
         ⟨(some 86), none, .faddr 7, [.slot 2], none⟩,
         ⟨(some 87), none, .load 1 false, [.slot 86], none⟩,
         ⟨(some 88), none, .load 9 true, [.slot 7], none⟩,
         ⟨(some 89), none, .buildSl 9 1 (.agg [(.int .i64 0), (.int .i64 0), (.str ⟨#[]⟩), (.str ⟨#[]⟩), (.str ⟨#[]⟩), (.str ⟨#[]⟩), (.int .i64 0), (.int .i64 0), (.str ⟨#[]⟩)]) [0], [.slot 88], none⟩,
         ⟨(some 90), none, .append 39 9 112, [.slot 87, .slot 89], none⟩,
         ⟨(some 91), none, .faddr 7, [.slot 2], none⟩,
         ⟨none, none, .store 1, [.slot 91, .slot 90], none⟩]))))
    (.region [
      ⟨(some 92), none, .bin .add, [.slot 63, .val (.int .i64 1)], none⟩,
      ⟨(some 63), none, .id, [.slot 92], none⟩])))
def b_script_reader_step : ICode :=
 .seq
  (.region [
    ⟨(some 2), none, .allocH 33 [(.int .i64 0), (.int .i64 0), (.int .i64 0), (.int .i64 0), (.int .i64 0), (.int .i64 0), (.int .u8 0), .nilsl], [], none⟩])
  (.seq
   (.region [
     ⟨(some 9), none, .id, [.slot 0], none⟩,
     ⟨(some 10), none, .call f_script_reader_line, [.slot 9], none⟩,
     ⟨(some 3), none, .allocH 9 [(.str ⟨#[]⟩)], [], none⟩,
     ⟨none, none, .store 1, [.slot 3, .slot 10], none⟩])
   (.seq
    (.seq
     (.region [
       ⟨(some 11), none, .call f_script_names, [], none⟩,
       ⟨(some 12), none, .call f_script_word, [.slot 3], none⟩,
       ⟨(some 13), none, .call f_slices_Indexstringstring, [.slot 11, .slot 12], none⟩,
       ⟨(some 14), none, .faddr 0, [.slot 2], none⟩,
       ⟨none, none, .store 1, [.slot 14, .slot 13], none⟩])
     (.seq
      (.region [
        ⟨(some 15), none, .faddr 0, [.slot 2], none⟩,
        ⟨(some 16), none, .load 1 false, [.slot 15], none⟩,
        ⟨(some 17), none, .bin .lss, [.slot 16, .val (.int .i64 1)], none⟩])
      (.cond (.slot 17)
       (.seq
        (.region [
          ⟨(some 18), none, .id, [.slot 0], none⟩,
          ⟨(some 19), none, .nilchk, [.slot 18], none⟩,
          ⟨(some 20), none, .faddr 1, [.slot 19], none⟩,
          ⟨none, none, .store 1, [.slot 20, .val (.bool true)], none⟩])
        (.seq
         (.region [
           ⟨(some 21), none, .load 8 true, [.slot 2], none⟩,
           ⟨none, none, .store 8, [.slot 2, .slot 21], none⟩])
         (.ret)))
       (.skip))))
    (.seq
     (.seq
      (.region [
        ⟨(some 22), none, .call f_script_own, [.slot 2], none⟩,
        ⟨(some 23), none, .lensl, [.slot 22], none⟩,
        ⟨(some 24), none, .id, [.val (.int .i64 0)], none⟩])
      (.block 0
       (.loop L0_script_reader_step)))
     (.seq
      (.seq
       (.region [
         ⟨(some 33), none, .faddr 0, [.slot 2], none⟩,
         ⟨(some 34), none, .load 1 false, [.slot 33], none⟩,
         ⟨(some 35), none, .call f_script_turned, [.slot 34], none⟩])
       (.cond (.slot 35)
        (.seq
         (.region [
           ⟨(some 36), none, .id, [.slot 0], none⟩,
           ⟨(some 37), none, .call f_script_reader_number, [.slot 36, .slot 3], none⟩,
           ⟨(some 6), none, .id, [.slot 37], none⟩])
         (.seq
          (.region [
            ⟨(some 38), none, .id, [.slot 0], none⟩,
            ⟨(some 39), none, .id, [.slot 0], none⟩,
            ⟨(some 40), none, .nilchk, [.slot 39], none⟩,
            ⟨(some 41), none, .faddr 1, [.slot 40], none⟩,
            ⟨(some 42), none, .load 1 false, [.slot 41], none⟩,
            ⟨(some 43), none, .id, [.slot 42], none⟩,
            ⟨(some 44), (some (43, false)), .id, [.slot 6], none⟩,
            ⟨(some 45), (some (43, false)), .bin .lss, [.slot 44, .val (.int .i64 0)], none⟩,
            ⟨(some 46), none, .pick, [.slot 43, .val (.bool true), .slot 45], none⟩,
            ⟨(some 47), none, .id, [.slot 46], none⟩,
            ⟨(some 48), (some (47, false)), .id, [.slot 6], none⟩,
            ⟨(some 49), (some (47, false)), .bin .gtr, [.slot 48, .val (.int .i64 255)], none⟩,
            ⟨(some 50), none, .pick, [.slot 47, .val (.bool true), .slot 49], none⟩,
            ⟨(some 51), none, .nilchk, [.slot 38], none⟩,
            ⟨(some 52), none, .faddr 1, [.slot 51], none⟩,
            ⟨none, none, .store 1, [.slot 52, .slot 50], none⟩])
          (.region [
            ⟨(some 53), none, .id, [.slot 6], none⟩,
            ⟨(some 54), none, .conv .u8, [.slot 53], none⟩,
            ⟨(some 55), none, .faddr 6, [.slot 2], none⟩,
            ⟨none, none, .store 1, [.slot 55, .slot 54], none⟩])))
        (.skip)))
      (.seq
       (.seq
        (.region [
          ⟨(some 56), none, .faddr 0, [.slot 2], none⟩,
          ⟨(some 57), none, .load 1 false, [.slot 56], none⟩,
          ⟨(some 58), none, .bin .neq, [.slot 57, .val (.int .i64 1)], none⟩])
        (.cond (.slot 58)
         (.seq
          (.region [
            ⟨(some 59), none, .load 8 true, [.slot 2], none⟩,
            ⟨none, none, .store 8, [.slot 2, .slot 59], none⟩])
          (.ret))
         (.skip)))
       (.seq
        (.seq
         (.region [
           ⟨(some 60), none, .id, [.slot 0], none⟩,
           ⟨(some 61), none, .call f_script_reader_number, [.slot 60, .slot 3], none⟩,
           ⟨(some 62), none, .minmax false, [.slot 61, .val (.int .i64 64)], none⟩,
           ⟨(some 63), none, .id, [.val (.int .i64 0)], none⟩])
         (.block 2
          (.loop L1_script_reader_step)))
        (.seq
         (.region [
           ⟨(some 93), none, .load 8 true, [.slot 2], none⟩,
           ⟨none, none, .store 8, [.slot 2, .slot 93], none⟩])
         (.ret))))))))
def F_script_reader_step : IFun := ⟨94, [.cell 2 8 true], b_script_reader_step, 8, 0⟩
theorem c_script_reader_step : cFun Tryd.prog [3, 2, 1048583, 2097165, 2097177] 0 f_script_reader_step = some F_script_reader_step := by kernel_rfl

def b_script_names : ICode :=
 .seq
  (.region [
    ⟨(some 0), none, .id, [.val .nilsl], none⟩])
  (.seq
   (.region [
     ⟨(some 1), none, .buildSl 1 12 (.str ⟨#[]⟩) [0, 1, 2, 3, 4, 5, 6, 7, 8, 9, 10, 11], [.val (.str ⟨#[]⟩), .val (.str ⟨#[119, 114, 105, 116, 101]⟩), .val (.str ⟨#[116, 105, 99, 107]⟩), .val (.str ⟨#[100, 101, 108, 105, 118, 101, 114]⟩), .val (.str ⟨#[100, 114, 111, 112]⟩), .val (.str ⟨#[100, 111, 117, 98, 108, 101]⟩), .val (.str ⟨#[116, 117, 114, 110]⟩), .val (.str ⟨#[99, 114, 97, 115, 104]⟩), .val (.str ⟨#[114, 101, 99, 111, 118, 101, 114]⟩), .val (.str ⟨#[99, 111, 109, 112, 97, 99, 116]⟩), .val (.str ⟨#[115, 112, 111, 105, 108]⟩), .val (.str ⟨#[115, 121, 110, 99]⟩)], none⟩,
     ⟨(some 0), none, .id, [.slot 1], none⟩])
   (.ret))
def F_script_names : IFun := ⟨2, [.slot 0], b_script_names, 8, 1⟩
theorem c_script_names : cFun Tryd.prog [] 1 f_script_names = some F_script_names := by kernel_rfl

def L0_script_plain : ICode :=
 .seq
  (.region [
    ⟨(some 8), none, .bin .lss, [.slot 7, .slot 6], none⟩])
  (.seq
   (.cond (.slot 8)
    (.skip)
    (.exit 0))
   (.seq
    (.block 1
     (.seq
      (.region [
        ⟨(some 9), none, .ixaddr 1, [.slot 5, .slot 7], none⟩,
        ⟨(some 10), none, .load 1 false, [.slot 9], none⟩,
        ⟨(some 4), none, .id, [.slot 10], none⟩])
      (.region [
        ⟨(some 11), none, .id, [.slot 4], none⟩,
        ⟨(some 12), none, .nilchk, [.slot 11], none⟩,
        ⟨none, none, .store 1, [.slot 12, .val (.int .i64 0)], none⟩])))
    (.region [
      ⟨(some 13), none, .bin .add, [.slot 7, .val (.int .i64 1)], none⟩,
      ⟨(some 7), none, .id, [.slot 13], none⟩])))
def b_script_plain : ICode :=
 .seq
  (.region [
    ⟨(some 1), none, .boxH 33, [.slot 0], none⟩,
    ⟨(some 2), none, .id, [.val (.bool false)], none⟩])
  (.seq
   (.seq
    (.region [
      ⟨(some 5), none, .call f_script_own, [.slot 1], none⟩,
      ⟨(some 6), none, .lensl, [.slot 5], none⟩,
      ⟨(some 7), none, .id, [.val (.int .i64 0)], none⟩])
    (.block 0
     (.loop L0_script_plain)))
   (.seq
    (.seq
     (.region [
       ⟨(some 14), none, .faddr 0, [.slot 1], none⟩,
       ⟨(some 15), none, .load 1 false, [.slot 14], none⟩,
       ⟨(some 16), none, .call f_script_turned, [.slot 15], none⟩])
     (.cond (.slot 16)
      (.region [
        ⟨(some 17), none, .faddr 6, [.slot 1], none⟩,
        ⟨none, none, .store 1, [.slot 17, .val (.int .u8 0)], none⟩])
      (.skip)))
    (.seq
     (.region [
       ⟨(some 18), none, .faddr 1, [.slot 1], none⟩,
       ⟨(some 19), none, .load 1 false, [.slot 18], none⟩,
       ⟨(some 20), none, .faddr 2, [.slot 1], none⟩,
       ⟨(some 21), none, .load 1 false, [.slot 20], none⟩,
       ⟨(some 22), none, .bin .or, [.slot 19, .slot 21], none⟩,
       ⟨(some 23), none, .faddr 3, [.slot 1], none⟩,
       ⟨(some 24), none, .load 1 false, [.slot 23], none⟩,
       ⟨(some 25), none, .bin .or, [.slot 22, .slot 24], none⟩,
       ⟨(some 26), none, .faddr 4, [.slot 1], none⟩,
       ⟨(some 27), none, .load 1 false, [.slot 26], none⟩,
       ⟨(some 28), none, .bin .or, [.slot 25, .slot 27], none⟩,
       ⟨(some 29), none, .faddr 5, [.slot 1], none⟩,
       ⟨(some 30), none, .load 1 false, [.slot 29], none⟩,
       ⟨(some 31), none, .bin .or, [.slot 28, .slot 30], none⟩,
       ⟨(some 32), none, .faddr 6, [.slot 1], none⟩,
       ⟨(some 33), none, .load 1 false, [.slot 32], none⟩,
       ⟨(some 34), none, .conv .i64, [.slot 33], none⟩,
       ⟨(some 35), none, .bin .or, [.slot 31, .slot 34], none⟩,
       ⟨(some 36), none, .bin .eql, [.slot 35, .val (.int .i64 0)], none⟩,
       ⟨(some 37), none, .id, [.slot 36], none⟩,
       ⟨(some 38), (some (37, true)), .faddr 0, [.slot 1], none⟩,
       ⟨(some 39), (some (37, true)), .load 1 false, [.slot 38], none⟩,
       ⟨(some 40), (some (37, true)), .bin .eql, [.slot 39, .val (.int .i64 1)], none⟩,
       ⟨(some 41), (some (37, true)), .id, [.slot 40], none⟩,
       ⟨(some 42), (some (41, true)), .faddr 7, [.slot 1], none⟩,
       ⟨(some 43), (some (41, true)), .load 1 false, [.slot 42], none⟩,
       ⟨(some 44), (some (41, true)), .lensl, [.slot 43], none⟩,
       ⟨(some 45), (some (41, true)), .bin .leq, [.slot 44, .val (.int .i64 64)], none⟩,
       ⟨(some 46), (some (37, true)), .pick, [.slot 41, .slot 45, .val (.bool false)], none⟩,
       ⟨(some 47), (some (37, true)), .id, [.slot 46], none⟩,
       ⟨(some 48), (some (47, false)), .faddr 7, [.slot 1], none⟩,
       ⟨(some 49), (some (47, false)), .load 1 false, [.slot 48], none⟩,
       ⟨(some 50), (some (47, false)), .lensl, [.slot 49], none⟩,
       ⟨(some 51), (some (47, false)), .bin .eql, [.slot 50, .val (.int .i64 0)], none⟩,
       ⟨(some 52), (some (37, true)), .pick, [.slot 47, .val (.bool true), .slot 51], none⟩,
       ⟨(some 53), none, .pick, [.slot 37, .slot 52, .val (.bool false)], none⟩,
       ⟨(some 2), none, .id, [.slot 53], none⟩])
     (.ret))))
def F_script_plain : IFun := ⟨54, [.slot 2], b_script_plain, 8, 1⟩
theorem c_script_plain : cFun Tryd.prog [1] 1 f_script_plain = some F_script_plain := by kernel_rfl

def b_script_own : ICode :=
 .seq
  (.region [
    ⟨(some 2), none, .id, [.val .nilsl], none⟩])
  (.seq
   (.seq
    (.region [
      ⟨(some 3), none, .id, [.slot 0], none⟩,
      ⟨(some 4), none, .nilchk, [.slot 3], none⟩,
      ⟨(some 5), none, .faddr 0, [.slot 4], none⟩,
      ⟨(some 6), none, .load 1 false, [.slot 5], none⟩])
    (.block 0
     (.seq
      (.region [
        ⟨(some 8), none, .bin .eql, [.slot 6, .val (.int .i64 2)], none⟩,
        ⟨(some 7), none, .id, [.slot 8], none⟩])
      (.cond (.slot 7)
       (.seq
        (.region [
          ⟨(some 9), none, .id, [.slot 0], none⟩,
          ⟨(some 10), none, .nilchk, [.slot 9], none⟩,
          ⟨(some 11), none, .faddr 1, [.slot 10], none⟩,
          ⟨(some 12), none, .id, [.slot 0], none⟩,
          ⟨(some 13), none, .nilchk, [.slot 12], none⟩,
          ⟨(some 14), none, .faddr 2, [.slot 13], none⟩,
          ⟨(some 15), none, .buildSl 1 2 .nilptr [0, 1], [.slot 11, .slot 14], none⟩,
          ⟨(some 2), none, .id, [.slot 15], none⟩])
        (.ret))
       (.seq
        (.seq
         (.region [
           ⟨(some 17), none, .bin .eql, [.slot 6, .val (.int .i64 3)], none⟩,
           ⟨(some 16), none, .id, [.slot 17], none⟩])
         (.cond (.slot 16)
          (.skip)
          (.seq
           (.region [
             ⟨(some 18), none, .bin .eql, [.slot 6, .val (.int .i64 4)], none⟩,
             ⟨(some 16), none, .id, [.slot 18], none⟩])
           (.cond (.slot 16)
            (.skip)
            (.region [
              ⟨(some 19), none, .bin .eql, [.slot 6, .val (.int .i64 5)], none⟩,
              ⟨(some 16), none, .id, [.slot 19], none⟩])))))
        (.cond (.slot 16)
         (.seq
          (.region [
            ⟨(some 20), none, .id, [.slot 0], none⟩,
            ⟨(some 21), none, .nilchk, [.slot 20], none⟩,
            ⟨(some 22), none, .faddr 3, [.slot 21], none⟩,
            ⟨(some 23), none, .buildSl 1 1 .nilptr [0], [.slot 22], none⟩,
            ⟨(some 2), none, .id, [.slot 23], none⟩])
          (.ret))
         (.seq
          (.region [
            ⟨(some 25), none, .bin .eql, [.slot 6, .val (.int .i64 6)], none⟩,
            ⟨(some 24), none, .id, [.slot 25], none⟩])
          (.cond (.slot 24)
           (.seq
            (.region [
              ⟨(some 26), none, .id, [.slot 0], none⟩,
              ⟨(some 27), none, .nilchk, [.slot 26], none⟩,
              ⟨(some 28), none, .faddr 3, [.slot 27], none⟩,
              ⟨(some 29), none, .id, [.slot 0], none⟩,
              ⟨(some 30), none, .nilchk, [.slot 29], none⟩,
              ⟨(some 31), none, .faddr 5, [.slot 30], none⟩,
              ⟨(some 32), none, .buildSl 1 2 .nilptr [0, 1], [.slot 28, .slot 31], none⟩,
              ⟨(some 2), none, .id, [.slot 32], none⟩])
            (.ret))
           (.seq
            (.region [
              ⟨(some 34), none, .bin .eql, [.slot 6, .val (.int .i64 7)], none⟩,
              ⟨(some 33), none, .id, [.slot 34], none⟩])
            (.cond (.slot 33)
             (.seq
              (.region [
                ⟨(some 35), none, .id, [.slot 0], none⟩,
                ⟨(some 36), none, .nilchk, [.slot 35], none⟩,
                ⟨(some 37), none, .faddr 1, [.slot 36], none⟩,
                ⟨(some 38), none, .id, [.slot 0], none⟩,
                ⟨(some 39), none, .nilchk, [.slot 38], none⟩,
                ⟨(some 40), none, .faddr 4, [.slot 39], none⟩,
                ⟨(some 41), none, .id, [.slot 0], none⟩,
                ⟨(some 42), none, .nilchk, [.slot 41], none⟩,
                ⟨(some 43), none, .faddr 5, [.slot 42], none⟩,
                ⟨(some 44), none, .buildSl 1 3 .nilptr [0, 1, 2], [.slot 37, .slot 40, .slot 43], none⟩,
                ⟨(some 2), none, .id, [.slot 44], none⟩])
              (.ret))
             (.seq
              (.region [
                ⟨(some 46), none, .bin .eql, [.slot 6, .val (.int .i64 10)], none⟩,
                ⟨(some 45), none, .id, [.slot 46], none⟩])
              (.cond (.slot 45)
               (.seq
                (.region [
                  ⟨(some 47), none, .id, [.slot 0], none⟩,
                  ⟨(some 48), none, .nilchk, [.slot 47], none⟩,
                  ⟨(some 49), none, .faddr 1, [.slot 48], none⟩,
                  ⟨(some 50), none, .id, [.slot 0], none⟩,
                  ⟨(some 51), none, .nilchk, [.slot 50], none⟩,
                  ⟨(some 52), none, .faddr 5, [.slot 51], none⟩,
                  ⟨(some 53), none, .buildSl 1 2 .nilptr [0, 1], [.slot 49, .slot 52], none⟩,
                  ⟨(some 2), none, .id, [.slot 53], none⟩])
                (.ret))
               (.skip)))))))))))))
   (.seq
    (.region [
      ⟨(some 54), none, .id, [.slot 0], none⟩,
      ⟨(some 55), none, .nilchk, [.slot 54], none⟩,
      ⟨(some 56), none, .faddr 1, [.slot 55], none⟩,
      ⟨(some 57), none, .buildSl 1 1 .nilptr [0], [.slot 56], none⟩,
      ⟨(some 2), none, .id, [.slot 57], none⟩])
    (.ret)))
def F_script_own : IFun := ⟨58, [.slot 2], b_script_own, 8, 0⟩
theorem c_script_own : cFun Tryd.prog [] 0 f_script_own = some F_script_own := by kernel_rfl

def F_strconv_Itoa : IFun := ⟨8, [], .trap, 0, 12⟩

def b_script_turned : ICode :=
 .seq
  (.region [
    ⟨(some 2), none, .id, [.val (.bool false)], none⟩])
  (.seq
   (.region [
     ⟨(some 3), none, .id, [.slot 0], none⟩,
     ⟨(some 4), none, .bin .eql, [.slot 3, .val (.int .i64 6)], none⟩,
     ⟨(some 5), none, .id, [.slot 4], none⟩,
     ⟨(some 6), (some (5, false)), .id, [.slot 0], none⟩,
     ⟨(some 7), (some (5, false)), .bin .eql, [.slot 6, .val (.int .i64 7)], none⟩,
     ⟨(some 8), none, .pick, [.slot 5, .val (.bool true), .slot 7], none⟩,
     ⟨(some 9), none, .id, [.slot 8], none⟩,
     ⟨(some 10), (some (9, false)), .id, [.slot 0], none⟩,
     ⟨(some 11), (some (9, false)), .bin .eql, [.slot 10, .val (.int .i64 10)], none⟩,
     ⟨(some 12), none, .pick, [.slot 9, .val (.bool true), .slot 11], none⟩,
     ⟨(some 2), none, .id, [.slot 12], none⟩])
   (.ret))
def F_script_turned : IFun := ⟨13, [.slot 2], b_script_turned, 8, 0⟩
theorem c_script_turned : cFun Tryd.prog [] 0 f_script_turned = some F_script_turned := by kernel_rfl

def F_strings_Join : IFun := ⟨8, [], .trap, 0, 10⟩

def L0_script_Change : ICode :=
 .seq
  (.region [
    ⟨(some 55), none, .bin .lss, [.slot 54, .slot 53], none⟩])
  (.seq
   (.cond (.slot 55)
    (.skip)
    (.exit 0))
   (.seq
    (.block 1
     (.seq
      (.region [
        ⟨(some 56), none, .ixaddr 1, [.slot 52, .slot 54], none⟩,
        ⟨(some 57), none, .load 1 false, [.slot 56], none⟩,
        ⟨(some 7), none, .id, [.slot 57], none⟩])
      (.region [
        ⟨(some 58), none, .id, [.slot 5], none⟩,
        ⟨(some 59), none, .id, [.slot 7], none⟩,
        ⟨(some 60), none, .nilchk, [.slot 59], none⟩,
        ⟨(some 61), none, .load 1 false, [.slot 60], none⟩,
        ⟨(some 62), none, .buildSl 1 1 (.str ⟨#[]⟩) [0], [.slot 61], none⟩,
        ⟨(some 63), none, .append 9 1 16, [.slot 58, .slot 62], none⟩,
        ⟨(some 5), none, .id, [.slot 63], none⟩])))
    (.region [
      ⟨(some 64), none, .bin .add, [.slot 54, .val (.int .i64 1)], none⟩,
      ⟨(some 54), none, .id, [.slot 64], none⟩])))
def b_script_Change : ICode :=
 .seq
  (.region [
    ⟨(some 1), none, .boxH 39, [.slot 0], none⟩,
    ⟨(some 2), none, .id, [.val (.str ⟨#[]⟩)], none⟩,
    ⟨(some 3), none, .id, [.val (.bool false)], none⟩])
  (.seq
   (.region [
     ⟨(some 8), none, .faddr 6, [.slot 1], none⟩,
     ⟨(some 9), none, .load 3 true, [.slot 8], none⟩,
     ⟨(some 10), none, .build [(.int .i64 0), (.int .i64 0), (.str ⟨#[]⟩)] [], [], none⟩,
     ⟨(some 11), none, .eqv false [(.int .i64), (.int .i64), .str], [.slot 9, .slot 10], none⟩,
     ⟨(some 4), none, .id, [.slot 11], none⟩])
   (.seq
    (.seq
     (.region [
       ⟨(some 12), none, .faddr 0, [.slot 1], none⟩,
       ⟨(some 13), none, .load 1 false, [.slot 12], none⟩,
       ⟨(some 14), none, .bin .lss, [.slot 13, .val (.int .i64 1)], none⟩,
       ⟨(some 15), none, .id, [.slot 14], none⟩,
       ⟨(some 16), (some (15, false)), .faddr 0, [.slot 1], none⟩,
       ⟨(some 17), (some (15, false)), .load 1 false, [.slot 16], none⟩,
       ⟨(some 18), (some (15, false)), .bin .gtr, [.slot 17, .val (.int .i64 4)], none⟩,
       ⟨(some 19), none, .pick, [.slot 15, .val (.bool true), .slot 18], none⟩,
       ⟨(some 20), none, .id, [.slot 19], none⟩,
       ⟨(some 21), (some (20, false)), .faddr 1, [.slot 1], none⟩,
       ⟨(some 22), (some (20, false)), .load 5 true, [.slot 21], none⟩,
       ⟨(some 23), (some (20, false)), .call f_value_Elem, [.slot 22], none⟩,
       ⟨(some 24), (some (20, false)), .un .not, [.slot 23], none⟩,
       ⟨(some 25), none, .pick, [.slot 20, .val (.bool true), .slot 24], none⟩,
       ⟨(some 26), none, .id, [.slot 25], none⟩,
       ⟨(some 27), (some (26, false)), .faddr 6, [.slot 1], none⟩,
       ⟨(some 28), (some (26, false)), .load 3 true, [.slot 27], none⟩,
       ⟨(some 29), (some (26, false)), .call f_value_Right, [.slot 28], none⟩,
       ⟨(some 30), (some (26, false)), .un .not, [.slot 29], none⟩,
       ⟨(some 31), none, .pick, [.slot 26, .val (.bool true), .slot 30], none⟩,
       ⟨(some 32), none, .id, [.slot 31], none⟩,
       ⟨(some 33), (some (32, false)), .id, [.slot 4], none⟩,
       ⟨(some 34), (some (32, false)), .faddr 0, [.slot 1], none⟩,
       ⟨(some 35), (some (32, false)), .load 1 false, [.slot 34], none⟩,
       ⟨(some 36), (some (32, false)), .bin .eql, [.slot 35, .val (.int .i64 3)], none⟩,
       ⟨(some 37), (some (32, false)), .eq1 false .bool, [.slot 33, .slot 36], none⟩,
       ⟨(some 38), none, .pick, [.slot 32, .val (.bool true), .slot 37], none⟩])
     (.cond (.slot 38)
      (.seq
       (.region [
         ⟨(some 2), none, .id, [.val (.str ⟨#[]⟩)], none⟩,
         ⟨(some 3), none, .id, [.val (.bool false)], none⟩])
       (.ret))
      (.skip)))
    (.seq
     (.region [
       ⟨(some 39), none, .callP f_script_ops, [], none⟩,
       ⟨(some 40), none, .faddr 0, [.slot 1], none⟩,
       ⟨(some 41), none, .load 1 false, [.slot 40], (some (.heap))⟩,
       ⟨(some 42), none, .ixaddr 1, [.slot 39, .slot 41], none⟩,
       ⟨(some 43), none, .load 1 false, [.slot 42], (some (.el))⟩,
       ⟨(some 44), none, .callP f_script_elems, [], none⟩,
       ⟨(some 45), none, .faddr 1, [.slot 1], none⟩,
       ⟨(some 46), none, .faddr 0, [.slot 45], none⟩,
       ⟨(some 47), none, .load 1 false, [.slot 46], (some (.heap))⟩,
       ⟨(some 48), none, .ixaddr 1, [.slot 44, .slot 47], none⟩,
       ⟨(some 49), none, .load 1 false, [.slot 48], (some (.el))⟩,
       ⟨(some 50), none, .buildSl 1 2 (.str ⟨#[]⟩) [0, 1], [.slot 43, .slot 49], none⟩,
       ⟨(some 5), none, .id, [.slot 50], none⟩])
     (.seq
      (.seq
       (.region [
         ⟨(some 51), none, .faddr 1, [.slot 1], none⟩,
         ⟨(some 52), none, .call f_script_parts, [.slot 51], none⟩,
         ⟨(some 53), none, .lensl, [.slot 52], none⟩,
         ⟨(some 54), none, .id, [.val (.int .i64 0)], none⟩])
       (.block 0
        (.loop L0_script_Change)))
      (.seq
       (.seq
        (.region [
          ⟨(some 65), none, .id, [.slot 4], none⟩,
          ⟨(some 66), none, .un .not, [.slot 65], none⟩])
        (.cond (.slot 66)
         (.region [
           ⟨(some 67), none, .id, [.slot 5], none⟩,
           ⟨(some 68), none, .faddr 6, [.slot 1], none⟩,
           ⟨(some 69), none, .load 3 true, [.slot 68], none⟩,
           ⟨(some 70), none, .call f_value_String, [.slot 69], none⟩,
           ⟨(some 71), none, .buildSl 1 1 (.str ⟨#[]⟩) [0], [.slot 70], none⟩,
           ⟨(some 72), none, .append 9 1 16, [.slot 67, .slot 71], none⟩,
           ⟨(some 5), none, .id, [.slot 72], none⟩])
         (.skip)))
       (.seq
        (.region [
          ⟨(some 73), none, .id, [.slot 5], none⟩,
          ⟨(some 74), none, .call f_strings_Join, [.slot 73, .val (.str ⟨#[32]⟩)], none⟩,
          ⟨(some 2), none, .id, [.slot 74], none⟩,
          ⟨(some 3), none, .id, [.val (.bool true)], none⟩])
        (.ret)))))))
def F_script_Change : IFun := ⟨75, [.slot 2, .slot 3], b_script_Change, 8, 1⟩
theorem c_script_Change : cFun Tryd.prog [1, 2097182, 2097183, 2097170] 1 f_script_Change = some F_script_Change := by kernel_rfl

def F_strings_Builder_copyCheck : IFun := ⟨8, [], .trap, 43, 20⟩

def b_script_reader_line : ICode :=
 .seq
  (.region [
    ⟨(some 2), none, .id, [.val (.str ⟨#[]⟩)], none⟩])
  (.seq
   (.region [
     ⟨(some 7), none, .id, [.slot 0], none⟩,
     ⟨(some 8), none, .nilchk, [.slot 7], none⟩,
     ⟨(some 9), none, .faddr 0, [.slot 8], none⟩,
     ⟨(some 10), none, .load 1 false, [.slot 9], none⟩,
     ⟨(some 11), none, .call f_strings_Cut, [.slot 10, .val (.str ⟨#[10]⟩)], none⟩,
     ⟨(some 6), none, .id, [.slot 11], none⟩,
     ⟨(some 12), none, .extract 0, [.slot 6], none⟩,
     ⟨(some 13), none, .extract 1, [.slot 6], none⟩,
     ⟨(some 14), none, .extract 2, [.slot 6], none⟩,
     ⟨(some 3), none, .id, [.slot 12], none⟩,
     ⟨(some 4), none, .id, [.slot 13], none⟩,
     ⟨(some 5), none, .id, [.slot 14], none⟩])
   (.seq
    (.region [
      ⟨(some 15), none, .id, [.slot 0], none⟩,
      ⟨(some 16), none, .id, [.slot 0], none⟩,
      ⟨(some 17), none, .nilchk, [.slot 16], none⟩,
      ⟨(some 18), none, .faddr 1, [.slot 17], none⟩,
      ⟨(some 19), none, .load 1 false, [.slot 18], none⟩,
      ⟨(some 20), none, .id, [.slot 19], none⟩,
      ⟨(some 21), (some (20, false)), .id, [.slot 5], none⟩,
      ⟨(some 22), (some (20, false)), .un .not, [.slot 21], none⟩,
      ⟨(some 23), none, .pick, [.slot 20, .val (.bool true), .slot 22], none⟩,
      ⟨(some 24), none, .nilchk, [.slot 15], none⟩,
      ⟨(some 25), none, .faddr 1, [.slot 24], none⟩,
      ⟨none, none, .store 1, [.slot 25, .slot 23], none⟩])
    (.seq
     (.region [
       ⟨(some 26), none, .id, [.slot 0], none⟩,
       ⟨(some 27), none, .id, [.slot 4], none⟩,
       ⟨(some 28), none, .nilchk, [.slot 26], none⟩,
       ⟨(some 29), none, .faddr 0, [.slot 28], none⟩,
       ⟨none, none, .store 1, [.slot 29, .slot 27], none⟩])
     (.seq
      (.region [
        ⟨(some 30), none, .id, [.slot 3], none⟩,
        ⟨(some 2), none, .id, [.slot 30], none⟩])
      (.ret)))))
def F_script_reader_line : IFun := ⟨31, [.slot 2], b_script_reader_line, 8, 0⟩
theorem c_script_reader_line : cFun Tryd.prog [2097187] 0 f_script_reader_line = some F_script_reader_line := by kernel_rfl

def L0_slices_Indexstringstring : ICode :=
 .seq
  (.region [
    ⟨(some 9), none, .bin .lss, [.slot 8, .slot 7], none⟩])
  (.seq
   (.cond (.slot 9)
    (.skip)
    (.exit 0))
   (.seq
    (.block 1
     (.seq
      (.region [
        ⟨(some 10), none, .id, [.slot 8], none⟩,
        ⟨(some 5), none, .id, [.slot 10], none⟩])
      (.seq
       (.region [
         ⟨(some 11), none, .id, [.slot 1], none⟩,
         ⟨(some 12), none, .id, [.slot 0], none⟩,
         ⟨(some 13), none, .id, [.slot 5], none⟩,
         ⟨(some 14), none, .ixaddr 1, [.slot 12, .slot 13], none⟩,
         ⟨(some 15), none, .load 1 false, [.slot 14], none⟩,
         ⟨(some 16), none, .bin .eql, [.slot 11, .slot 15], none⟩])
       (.cond (.slot 16)
        (.seq
         (.region [
           ⟨(some 17), none, .id, [.slot 5], none⟩,
           ⟨(some 4), none, .id, [.slot 17], none⟩])
         (.ret))
        (.skip)))))
    (.region [
      ⟨(some 18), none, .bin .add, [.slot 8, .val (.int .i64 1)], none⟩,
      ⟨(some 8), none, .id, [.slot 18], none⟩])))
def b_slices_Indexstringstring : ICode :=
 .seq
  (.region [
    ⟨(some 4), none, .id, [.val (.int .i64 0)], none⟩])
  (.seq
   (.seq
    (.region [
      ⟨(some 6), none, .id, [.slot 0], none⟩,
      ⟨(some 7), none, .lensl, [.slot 6], none⟩,
      ⟨(some 8), none, .id, [.val (.int .i64 0)], none⟩])
    (.block 0
     (.loop L0_slices_Indexstringstring)))
   (.seq
    (.region [
      ⟨(some 4), none, .id, [.val (.int .i64 (-1))], none⟩])
    (.ret)))
def F_slices_Indexstringstring : IFun := ⟨19, [.slot 4], b_slices_Indexstringstring, 8, 0⟩
theorem c_slices_Indexstringstring : cFun Tryd.prog [] 0 f_slices_Indexstringstring = some F_slices_Indexstringstring := by kernel_rfl

def b_script_word : ICode :=
 .seq
  (.region [
    ⟨(some 2), none, .id, [.val (.str ⟨#[]⟩)], none⟩])
  (.seq
   (.region [
     ⟨(some 7), none, .id, [.slot 0], none⟩,
     ⟨(some 8), none, .nilchk, [.slot 7], none⟩,
     ⟨(some 9), none, .load 1 false, [.slot 8], none⟩,
     ⟨(some 10), none, .call f_strings_Cut, [.slot 9, .val (.str ⟨#[32]⟩)], none⟩,
     ⟨(some 6), none, .id, [.slot 10], none⟩,
     ⟨(some 11), none, .extract 0, [.slot 6], none⟩,
     ⟨(some 12), none, .extract 1, [.slot 6], none⟩,
     ⟨(some 13), none, .extract 2, [.slot 6], none⟩,
     ⟨(some 3), none, .id, [.slot 11], none⟩,
     ⟨(some 4), none, .id, [.slot 12], none⟩,
     ⟨(some 5), none, .id, [.slot 13], none⟩])
   (.seq
    (.region [
      ⟨(some 14), none, .id, [.slot 0], none⟩,
      ⟨(some 15), none, .id, [.slot 4], none⟩,
      ⟨(some 16), none, .nilchk, [.slot 14], none⟩,
      ⟨none, none, .store 1, [.slot 16, .slot 15], none⟩])
    (.seq
     (.region [
       ⟨(some 17), none, .id, [.slot 3], none⟩,
       ⟨(some 2), none, .id, [.slot 17], none⟩])
     (.ret))))
def F_script_word : IFun := ⟨18, [.slot 2], b_script_word, 8, 0⟩
theorem c_script_word : cFun Tryd.prog [2097187] 0 f_script_word = some F_script_word := by kernel_rfl

def b_script_reader_number : ICode :=
 .seq
  (.region [
    ⟨(some 4), none, .id, [.val (.int .i64 0)], none⟩])
  (.seq
   (.region [
     ⟨(some 8), none, .id, [.slot 1], none⟩,
     ⟨(some 9), none, .call f_script_word, [.slot 8], none⟩,
     ⟨(some 10), none, .call f_strconv_Atoi, [.slot 9], none⟩,
     ⟨(some 7), none, .id, [.slot 10], none⟩,
     ⟨(some 11), none, .extract 0, [.slot 7], none⟩,
     ⟨(some 12), none, .extract 1, [.slot 7], none⟩,
     ⟨(some 5), none, .id, [.slot 11], none⟩,
     ⟨(some 6), none, .id, [.slot 12], none⟩])
   (.seq
    (.region [
      ⟨(some 13), none, .id, [.slot 0], none⟩,
      ⟨(some 14), none, .id, [.slot 0], none⟩,
      ⟨(some 15), none, .nilchk, [.slot 14], none⟩,
      ⟨(some 16), none, .faddr 1, [.slot 15], none⟩,
      ⟨(some 17), none, .load 1 false, [.slot 16], none⟩,
      ⟨(some 18), none, .id, [.slot 17], none⟩,
      ⟨(some 19), (some (18, false)), .id, [.slot 6], none⟩,
      ⟨(some 20), (some (18, false)), .eq1 true .iface, [.slot 19, .val .niliface], none⟩,
      ⟨(some 21), none, .pick, [.slot 18, .val (.bool true), .slot 20], none⟩,
      ⟨(some 22), none, .nilchk, [.slot 13], none⟩,
      ⟨(some 23), none, .faddr 1, [.slot 22], none⟩,
      ⟨none, none, .store 1, [.slot 23, .slot 21], none⟩])
    (.seq
     (.region [
       ⟨(some 24), none, .id, [.slot 5], none⟩,
       ⟨(some 4), none, .id, [.slot 24], none⟩])
     (.ret))))
def F_script_reader_number : IFun := ⟨25, [.slot 4], b_script_reader_number, 8, 0⟩
theorem c_script_reader_number : cFun Tryd.prog [2097188] 0 f_script_reader_number = some F_script_reader_number := by kernel_rfl

def L0_script_ReadChange : ICode :=
 .seq
  (.region [
    ⟨(some 34), none, .bin .lss, [.slot 33, .slot 32], none⟩])
  (.seq
   (.cond (.slot 34)
    (.skip)
    (.exit 0))
   (.seq
    (.block 1
     (.seq
      (.region [
        ⟨(some 35), none, .ixaddr 1, [.slot 31, .slot 33], none⟩,
        ⟨(some 36), none, .load 1 false, [.slot 35], none⟩,
        ⟨(some 7), none, .id, [.slot 36], none⟩])
      (.region [
        ⟨(some 37), none, .id, [.slot 7], none⟩,
        ⟨(some 38), none, .call f_script_word, [.slot 4], none⟩,
        ⟨(some 39), none, .nilchk, [.slot 37], none⟩,
        ⟨none, none, .store 1, [.slot 39, .slot 38], none⟩])))
    (.region [
      ⟨(some 40), none, .bin .add, [.slot 33, .val (.int .i64 1)], none⟩,
      ⟨(some 33), none, .id, [.slot 40], none⟩])))
def b_script_ReadChange : ICode :=
 .seq
  (.region [
    ⟨(some 2), none, .allocL [(.int .i64 0), (.int .i64 0), (.str ⟨#[]⟩), (.str ⟨#[]⟩), (.str ⟨#[]⟩), (.str ⟨#[]⟩), (.int .i64 0), (.int .i64 0), (.str ⟨#[]⟩)], [], none⟩,
    ⟨(some 3), none, .id, [.val (.bool false)], none⟩])
  (.seq
   (.region [
     ⟨(some 10), none, .id, [.slot 0], none⟩,
     ⟨(some 4), none, .allocH 9 [(.str ⟨#[]⟩)], [], none⟩,
     ⟨none, none, .store 1, [.slot 4, .slot 10], none⟩])
   (.seq
    (.region [
      ⟨(some 11), none, .call f_script_ops, [], none⟩,
      ⟨(some 12), none, .call f_script_word, [.slot 4], none⟩,
      ⟨(some 13), none, .call f_slices_Indexstringstring, [.slot 11, .slot 12], none⟩,
      ⟨(some 14), none, .build [(.int .i64 0), (.int .i64 0), (.str ⟨#[]⟩), (.str ⟨#[]⟩), (.str ⟨#[]⟩), (.str ⟨#[]⟩), (.int .i64 0), (.int .i64 0), (.str ⟨#[]⟩)] [(0, 1)], [.slot 13], none⟩,
      ⟨(some 5), none, .allocH 39 [(.int .i64 0), (.int .i64 0), (.str ⟨#[]⟩), (.str ⟨#[]⟩), (.str ⟨#[]⟩), (.str ⟨#[]⟩), (.int .i64 0), (.int .i64 0), (.str ⟨#[]⟩)], [], none⟩,
      ⟨none, none, .store 9, [.slot 5, .slot 14], none⟩])
    (.seq
     (.region [
       ⟨(some 15), none, .call f_script_elems, [], none⟩,
       ⟨(some 16), none, .call f_script_word, [.slot 4], none⟩,
       ⟨(some 17), none, .call f_slices_Indexstringstring, [.slot 15, .slot 16], none⟩,
       ⟨(some 18), none, .faddr 1, [.slot 5], none⟩,
       ⟨(some 19), none, .faddr 0, [.slot 18], none⟩,
       ⟨none, none, .store 1, [.slot 19, .slot 17], none⟩])
     (.seq
      (.seq
       (.region [
         ⟨(some 20), none, .faddr 0, [.slot 5], none⟩,
         ⟨(some 21), none, .load 1 false, [.slot 20], none⟩,
         ⟨(some 22), none, .bin .lss, [.slot 21, .val (.int .i64 1)], none⟩,
         ⟨(some 23), none, .id, [.slot 22], none⟩,
         ⟨(some 24), (some (23, false)), .faddr 1, [.slot 5], none⟩,
         ⟨(some 25), (some (23, false)), .faddr 0, [.slot 24], none⟩,
         ⟨(some 26), (some (23, false)), .load 1 false, [.slot 25], none⟩,
         ⟨(some 27), (some (23, false)), .bin .lss, [.slot 26, .val (.int .i64 1)], none⟩,
         ⟨(some 28), none, .pick, [.slot 23, .val (.bool true), .slot 27], none⟩])
       (.cond (.slot 28)
        (.seq
         (.region [
           ⟨(some 29), none, .build [(.int .i64 0), (.int .i64 0), (.str ⟨#[]⟩), (.str ⟨#[]⟩), (.str ⟨#[]⟩), (.str ⟨#[]⟩), (.int .i64 0), (.int .i64 0), (.str ⟨#[]⟩)] [], [], none⟩,
           ⟨none, none, .store 9, [.slot 2, .slot 29], none⟩,
           ⟨(some 3), none, .id, [.val (.bool false)], none⟩])
         (.ret))
        (.skip)))
      (.seq
       (.seq
        (.region [
          ⟨(some 30), none, .faddr 1, [.slot 5], none⟩,
          ⟨(some 31), none, .call f_script_parts, [.slot 30], none⟩,
          ⟨(some 32), none, .lensl, [.slot 31], none⟩,
          ⟨(some 33), none, .id, [.val (.int .i64 0)], none⟩])
        (.block 0
         (.loop L0_script_ReadChange)))
       (.seq
        (.seq
         (.region [
           ⟨(some 41), none, .faddr 0, [.slot 5], none⟩,
           ⟨(some 42), none, .load 1 false, [.slot 41], none⟩,
           ⟨(some 43), none, .bin .eql, [.slot 42, .val (.int .i64 3)], none⟩])
         (.cond (.slot 43)
          (.region [
            ⟨(some 45), none, .load 1 false, [.slot 4], none⟩,
            ⟨(some 46), none, .call f_value_Parse, [.slot 45], none⟩,
            ⟨(some 44), none, .id, [.slot 46], none⟩,
            ⟨(some 47), none, .extract 0, [.slot 44], none⟩,
            ⟨(some 48), none, .extract 1, [.slot 44], none⟩,
            ⟨(some 49), none, .faddr 6, [.slot 5], none⟩,
            ⟨none, none, .store 3, [.slot 49, .slot 47], none⟩])
          (.skip)))
        (.seq
         (.seq
          (.region [
            ⟨(some 51), none, .load 9 true, [.slot 5], none⟩,
            ⟨(some 52), none, .call f_script_Change, [.slot 51], none⟩,
            ⟨(some 50), none, .id, [.slot 52], none⟩,
            ⟨(some 53), none, .extract 0, [.slot 50], none⟩,
            ⟨(some 54), none, .extract 1, [.slot 50], none⟩,
            ⟨(some 8), none, .id, [.slot 53], none⟩,
            ⟨(some 9), none, .id, [.slot 54], none⟩])
          (.seq
           (.region [
             ⟨(some 55), none, .id, [.slot 9], none⟩,
             ⟨(some 56), none, .un .not, [.slot 55], none⟩,
             ⟨(some 57), none, .id, [.slot 56], none⟩,
             ⟨(some 58), (some (57, false)), .id, [.slot 8], none⟩,
             ⟨(some 59), (some (57, false)), .id, [.slot 0], none⟩,
             ⟨(some 60), (some (57, false)), .bin .neq, [.slot 58, .slot 59], none⟩,
             ⟨(some 61), none, .pick, [.slot 57, .val (.bool true), .slot 60], none⟩])
           (.cond (.slot 61)
            (.seq
             (.region [
               ⟨(some 62), none, .build [(.int .i64 0), (.int .i64 0), (.str ⟨#[]⟩), (.str ⟨#[]⟩), (.str ⟨#[]⟩), (.str ⟨#[]⟩), (.int .i64 0), (.int .i64 0), (.str ⟨#[]⟩)] [], [], none⟩,
               ⟨none, none, .store 9, [.slot 2, .slot 62], none⟩,
               ⟨(some 3), none, .id, [.val (.bool false)], none⟩])
             (.ret))
            (.skip))))
         (.seq
          (.region [
            ⟨(some 63), none, .load 9 true, [.slot 5], none⟩,
            ⟨none, none, .store 9, [.slot 2, .slot 63], none⟩,
            ⟨(some 3), none, .id, [.val (.bool true)], none⟩])
          (.ret)))))))))
def F_script_ReadChange : IFun := ⟨64, [.cell 2 9 true, .slot 3], b_script_ReadChange, 8, 1⟩
theorem c_script_ReadChange : cFun Tryd.prog [5, 4, 1048578, 2097182, 2097183, 2097171] 1 f_script_ReadChange = some F_script_ReadChange := by kernel_rfl

def b_value_Elem : ICode :=
 .seq
  (.region [
    ⟨(some 1), none, .boxL, [.slot 0], none⟩,
    ⟨(some 2), none, .id, [.val (.bool false)], none⟩])
  (.seq
   (.seq
    (.region [
      ⟨(some 3), none, .faddr 0, [.slot 1], none⟩,
      ⟨(some 4), none, .load 1 false, [.slot 3], none⟩])
    (.block 0
     (.seq
      (.region [
        ⟨(some 6), none, .bin .eql, [.slot 4, .val (.int .i64 1)], none⟩,
        ⟨(some 5), none, .id, [.slot 6], none⟩])
      (.cond (.slot 5)
       (.seq
        (.region [
          ⟨(some 7), none, .faddr 1, [.slot 1], none⟩,
          ⟨(some 8), none, .load 1 false, [.slot 7], none⟩,
          ⟨(some 9), none, .buildSl 1 1 (.str ⟨#[]⟩) [0], [.slot 8], none⟩,
          ⟨(some 10), none, .call f_value_names, [.slot 9], none⟩,
          ⟨(some 11), none, .id, [.slot 10], none⟩,
          ⟨(some 12), (some (11, true)), .faddr 2, [.slot 1], none⟩,
          ⟨(some 13), (some (11, true)), .load 1 false, [.slot 12], none⟩,
          ⟨(some 14), (some (11, true)), .faddr 3, [.slot 1], none⟩,
          ⟨(some 15), (some (11, true)), .load 1 false, [.slot 14], none⟩,
          ⟨(some 16), (some (11, true)), .faddr 4, [.slot 1], none⟩,
          ⟨(some 17), (some (11, true)), .load 1 false, [.slot 16], none⟩,
          ⟨(some 18), (some (11, true)), .buildSl 1 3 (.str ⟨#[]⟩) [0, 1, 2], [.slot 13, .slot 15, .slot 17], none⟩,
          ⟨(some 19), (some (11, true)), .call f_value_empty, [.slot 18], none⟩,
          ⟨(some 20), none, .pick, [.slot 11, .slot 19, .val (.bool false)], none⟩,
          ⟨(some 2), none, .id, [.slot 20], none⟩])
        (.ret))
       (.seq
        (.seq
         (.region [
           ⟨(some 22), none, .bin .eql, [.slot 4, .val (.int .i64 2)], none⟩,
           ⟨(some 21), none, .id, [.slot 22], none⟩])
         (.cond (.slot 21)
          (.skip)
          (.region [
            ⟨(some 23), none, .bin .eql, [.slot 4, .val (.int .i64 4)], none⟩,
            ⟨(some 21), none, .id, [.slot 23], none⟩])))
        (.cond (.slot 21)
         (.seq
          (.region [
            ⟨(some 24), none, .faddr 1, [.slot 1], none⟩,
            ⟨(some 25), none, .load 1 false, [.slot 24], none⟩,
            ⟨(some 26), none, .faddr 4, [.slot 1], none⟩,
            ⟨(some 27), none, .load 1 false, [.slot 26], none⟩,
            ⟨(some 28), none, .buildSl 1 2 (.str ⟨#[]⟩) [0, 1], [.slot 25, .slot 27], none⟩,
            ⟨(some 29), none, .call f_value_names, [.slot 28], none⟩,
            ⟨(some 30), none, .id, [.slot 29], none⟩,
            ⟨(some 31), (some (30, true)), .faddr 2, [.slot 1], none⟩,
            ⟨(some 32), (some (30, true)), .load 1 false, [.slot 31], none⟩,
            ⟨(some 33), (some (30, true)), .faddr 3, [.slot 1], none⟩,
            ⟨(some 34), (some (30, true)), .load 1 false, [.slot 33], none⟩,
            ⟨(some 35), (some (30, true)), .buildSl 1 2 (.str ⟨#[]⟩) [0, 1], [.slot 32, .slot 34], none⟩,
            ⟨(some 36), (some (30, true)), .call f_value_empty, [.slot 35], none⟩,
            ⟨(some 37), none, .pick, [.slot 30, .slot 36, .val (.bool false)], none⟩,
            ⟨(some 2), none, .id, [.slot 37], none⟩])
          (.ret))
         (.seq
          (.region [
            ⟨(some 39), none, .bin .eql, [.slot 4, .val (.int .i64 3)], none⟩,
            ⟨(some 38), none, .id, [.slot 39], none⟩])
          (.cond (.slot 38)
           (.seq
            (.region [
              ⟨(some 40), none, .faddr 1, [.slot 1], none⟩,
              ⟨(some 41), none, .load 1 false, [.slot 40], none⟩,
              ⟨(some 42), none, .faddr 2, [.slot 1], none⟩,
              ⟨(some 43), none, .load 1 false, [.slot 42], none⟩,
              ⟨(some 44), none, .faddr 3, [.slot 1], none⟩,
              ⟨(some 45), none, .load 1 false, [.slot 44], none⟩,
              ⟨(some 46), none, .buildSl 1 3 (.str ⟨#[]⟩) [0, 1, 2], [.slot 41, .slot 43, .slot 45], none⟩,
              ⟨(some 47), none, .call f_value_names, [.slot 46], none⟩,
              ⟨(some 48), none, .id, [.slot 47], none⟩,
              ⟨(some 49), (some (48, true)), .faddr 4, [.slot 1], none⟩,
              ⟨(some 50), (some (48, true)), .load 1 false, [.slot 49], none⟩,
              ⟨(some 51), (some (48, true)), .buildSl 1 1 (.str ⟨#[]⟩) [0], [.slot 50], none⟩,
              ⟨(some 52), (some (48, true)), .call f_value_empty, [.slot 51], none⟩,
              ⟨(some 53), none, .pick, [.slot 48, .slot 52, .val (.bool false)], none⟩,
              ⟨(some 2), none, .id, [.slot 53], none⟩])
            (.ret))
           (.seq
            (.region [
              ⟨(some 55), none, .bin .eql, [.slot 4, .val (.int .i64 5)], none⟩,
              ⟨(some 54), none, .id, [.slot 55], none⟩])
            (.cond (.slot 54)
             (.seq
              (.region [
                ⟨(some 56), none, .faddr 1, [.slot 1], none⟩,
                ⟨(some 57), none, .load 1 false, [.slot 56], none⟩,
                ⟨(some 58), none, .faddr 2, [.slot 1], none⟩,
                ⟨(some 59), none, .load 1 false, [.slot 58], none⟩,
                ⟨(some 60), none, .faddr 3, [.slot 1], none⟩,
                ⟨(some 61), none, .load 1 false, [.slot 60], none⟩,
                ⟨(some 62), none, .faddr 4, [.slot 1], none⟩,
                ⟨(some 63), none, .load 1 false, [.slot 62], none⟩,
                ⟨(some 64), none, .buildSl 1 4 (.str ⟨#[]⟩) [0, 1, 2, 3], [.slot 57, .slot 59, .slot 61, .slot 63], none⟩,
                ⟨(some 65), none, .call f_value_names, [.slot 64], none⟩,
                ⟨(some 2), none, .id, [.slot 65], none⟩])
              (.ret))
             (.skip)))))))))))
   (.seq
    (.region [
      ⟨(some 2), none, .id, [.val (.bool false)], none⟩])
    (.ret)))
def F_value_Elem : IFun := ⟨66, [.slot 2], b_value_Elem, 8, 0⟩
theorem c_value_Elem : cFun Tryd.prog [1048577] 0 f_value_Elem = some F_value_Elem := by kernel_rfl

def b_value_Right : ICode :=
 .seq
  (.region [
    ⟨(some 1), none, .boxL, [.slot 0], none⟩,
    ⟨(some 2), none, .id, [.val (.bool false)], none⟩])
  (.seq
   (.seq
    (.region [
      ⟨(some 5), none, .faddr 0, [.slot 1], none⟩,
      ⟨(some 6), none, .load 1 false, [.slot 5], none⟩])
    (.block 0
     (.seq
      (.region [
        ⟨(some 8), none, .bin .eql, [.slot 6, .val (.int .i64 0)], none⟩,
        ⟨(some 7), none, .id, [.slot 8], none⟩])
      (.cond (.slot 7)
       (.seq
        (.region [
          ⟨(some 9), none, .faddr 1, [.slot 1], none⟩,
          ⟨(some 10), none, .load 1 false, [.slot 9], none⟩,
          ⟨(some 11), none, .bin .eql, [.slot 10, .val (.int .i64 0)], none⟩,
          ⟨(some 12), none, .id, [.slot 11], none⟩,
          ⟨(some 13), (some (12, true)), .faddr 2, [.slot 1], none⟩,
          ⟨(some 14), (some (12, true)), .load 1 false, [.slot 13], none⟩,
          ⟨(some 15), (some (12, true)), .bin .eql, [.slot 14, .val (.str ⟨#[]⟩)], none⟩,
          ⟨(some 16), none, .pick, [.slot 12, .slot 15, .val (.bool false)], none⟩,
          ⟨(some 2), none, .id, [.slot 16], none⟩])
        (.ret))
       (.seq
        (.region [
          ⟨(some 18), none, .bin .eql, [.slot 6, .val (.int .i64 1)], none⟩,
          ⟨(some 17), none, .id, [.slot 18], none⟩])
        (.cond (.slot 17)
         (.seq
          (.region [
            ⟨(some 19), none, .faddr 1, [.slot 1], none⟩,
            ⟨(some 20), none, .load 1 false, [.slot 19], none⟩,
            ⟨(some 21), none, .bin .andNot, [.slot 20, .val (.int .i64 1)], none⟩,
            ⟨(some 22), none, .bin .eql, [.slot 21, .val (.int .i64 0)], none⟩,
            ⟨(some 23), none, .id, [.slot 22], none⟩,
            ⟨(some 24), (some (23, true)), .faddr 2, [.slot 1], none⟩,
            ⟨(some 25), (some (23, true)), .load 1 false, [.slot 24], none⟩,
            ⟨(some 26), (some (23, true)), .bin .eql, [.slot 25, .val (.str ⟨#[]⟩)], none⟩,
            ⟨(some 27), none, .pick, [.slot 23, .slot 26, .val (.bool false)], none⟩,
            ⟨(some 2), none, .id, [.slot 27], none⟩])
          (.ret))
         (.seq
          (.region [
            ⟨(some 29), none, .bin .eql, [.slot 6, .val (.int .i64 2)], none⟩,
            ⟨(some 28), none, .id, [.slot 29], none⟩])
          (.cond (.slot 28)
           (.seq
            (.region [
              ⟨(some 30), none, .faddr 1, [.slot 1], none⟩,
              ⟨(some 31), none, .load 1 false, [.slot 30], none⟩,
              ⟨(some 32), none, .bin .geq, [.slot 31, .val (.int .i64 (-1099511627776))], none⟩,
              ⟨(some 33), none, .id, [.slot 32], none⟩,
              ⟨(some 34), (some (33, true)), .faddr 1, [.slot 1], none⟩,
              ⟨(some 35), (some (33, true)), .load 1 false, [.slot 34], none⟩,
              ⟨(some 36), (some (33, true)), .bin .leq, [.slot 35, .val (.int .i64 1099511627776)], none⟩,
              ⟨(some 37), none, .pick, [.slot 33, .slot 36, .val (.bool false)], none⟩,
              ⟨(some 38), none, .id, [.slot 37], none⟩,
              ⟨(some 39), (some (38, true)), .faddr 2, [.slot 1], none⟩,
              ⟨(some 40), (some (38, true)), .load 1 false, [.slot 39], none⟩,
              ⟨(some 41), (some (38, true)), .bin .eql, [.slot 40, .val (.str ⟨#[]⟩)], none⟩,
              ⟨(some 42), none, .pick, [.slot 38, .slot 41, .val (.bool false)], none⟩,
              ⟨(some 2), none, .id, [.slot 42], none⟩])
            (.ret))
           (.seq
            (.region [
              ⟨(some 44), none, .bin .eql, [.slot 6, .val (.int .i64 3)], none⟩,
              ⟨(some 43), none, .id, [.slot 44], none⟩])
            (.cond (.slot 43)
             (.seq
              (.region [
                ⟨(some 45), none, .faddr 1, [.slot 1], none⟩,
                ⟨(some 46), none, .load 1 false, [.slot 45], none⟩,
                ⟨(some 47), none, .bin .eql, [.slot 46, .val (.int .i64 0)], none⟩,
                ⟨(some 48), none, .id, [.slot 47], none⟩,
                ⟨(some 49), (some (48, true)), .faddr 2, [.slot 1], none⟩,
                ⟨(some 50), (some (48, true)), .load 1 false, [.slot 49], none⟩,
                ⟨(some 51), (some (48, true)), .call f_value_plain, [.slot 50], none⟩,
                ⟨(some 52), none, .pick, [.slot 48, .slot 51, .val (.bool false)], none⟩,
                ⟨(some 2), none, .id, [.slot 52], none⟩])
              (.ret))
             (.seq
              (.region [
                ⟨(some 54), none, .bin .eql, [.slot 6, .val (.int .i64 4)], none⟩,
                ⟨(some 53), none, .id, [.slot 54], none⟩])
              (.cond (.slot 53)
               (.seq
                (.region [
                  ⟨(some 55), none, .faddr 1, [.slot 1], none⟩,
                  ⟨(some 56), none, .load 1 false, [.slot 55], none⟩,
                  ⟨(some 57), none, .bin .eql, [.slot 56, .val (.int .i64 0)], none⟩,
                  ⟨(some 58), none, .id, [.slot 57], none⟩,
                  ⟨(some 59), (some (58, true)), .faddr 2, [.slot 1], none⟩,
                  ⟨(some 60), (some (58, true)), .load 1 false, [.slot 59], none⟩,
                  ⟨(some 61), (some (58, true)), .call f_value_Name, [.slot 60], none⟩,
                  ⟨(some 62), none, .pick, [.slot 58, .slot 61, .val (.bool false)], none⟩,
                  ⟨(some 2), none, .id, [.slot 62], none⟩])
                (.ret))
               (.skip)))))))))))))
   (.seq
    (.region [
      ⟨(some 64), none, .load 3 true, [.slot 1], none⟩,
      ⟨(some 65), none, .call f_value_Link, [.slot 64], none⟩,
      ⟨(some 63), none, .id, [.slot 65], none⟩,
      ⟨(some 66), none, .extract 0, [.slot 63], none⟩,
      ⟨(some 67), none, .extract 1, [.slot 63], none⟩,
      ⟨(some 3), none, .allocL [(.str ⟨#[]⟩), (.str ⟨#[]⟩), (.str ⟨#[]⟩)], [], none⟩,
      ⟨none, none, .store 3, [.slot 3, .slot 66], none⟩,
      ⟨(some 4), none, .id, [.slot 67], none⟩])
    (.seq
     (.region [
       ⟨(some 68), none, .id, [.slot 4], none⟩,
       ⟨(some 2), none, .id, [.slot 68], none⟩])
     (.ret))))
def F_value_Right : IFun := ⟨69, [.slot 2], b_value_Right, 8, 0⟩
theorem c_value_Right : cFun Tryd.prog [1048577, 1048579] 0 f_value_Right = some F_value_Right := by kernel_rfl

def b_script_ops : ICode :=
 .seq
  (.region [
    ⟨(some 0), none, .id, [.val .nilsl], none⟩])
  (.seq
   (.region [
     ⟨(some 1), none, .buildSl 1 5 (.str ⟨#[]⟩) [0, 1, 2, 3, 4], [.val (.str ⟨#[]⟩), .val (.str ⟨#[97, 100, 100]⟩), .val (.str ⟨#[114, 101, 109, 111, 118, 101]⟩), .val (.str ⟨#[115, 101, 116]⟩), .val (.str ⟨#[99, 108, 101, 97, 114]⟩)], none⟩,
     ⟨(some 0), none, .id, [.slot 1], none⟩])
   (.ret))
def F_script_ops : IFun := ⟨2, [.slot 0], b_script_ops, 8, 1⟩
theorem c_script_ops : cFun Tryd.prog [] 1 f_script_ops = some F_script_ops := by kernel_rfl

def b_script_elems : ICode :=
 .seq
  (.region [
    ⟨(some 0), none, .id, [.val .nilsl], none⟩])
  (.seq
   (.region [
     ⟨(some 1), none, .buildSl 1 6 (.str ⟨#[]⟩) [0, 1, 2, 3, 4, 5], [.val (.str ⟨#[]⟩), .val (.str ⟨#[110, 111, 100, 101]⟩), .val (.str ⟨#[108, 97, 98, 101, 108]⟩), .val (.str ⟨#[101, 100, 103, 101]⟩), .val (.str ⟨#[112, 114, 111, 112]⟩), .val (.str ⟨#[116, 114, 97, 105, 116]⟩)], none⟩,
     ⟨(some 0), none, .id, [.slot 1], none⟩])
   (.ret))
def F_script_elems : IFun := ⟨2, [.slot 0], b_script_elems, 8, 1⟩
theorem c_script_elems : cFun Tryd.prog [] 1 f_script_elems = some F_script_elems := by kernel_rfl

def b_script_parts : ICode :=
 .seq
  (.region [
    ⟨(some 2), none, .id, [.val .nilsl], none⟩])
  (.seq
   (.seq
    (.region [
      ⟨(some 3), none, .id, [.slot 0], none⟩,
      ⟨(some 4), none, .nilchk, [.slot 3], none⟩,
      ⟨(some 5), none, .faddr 0, [.slot 4], none⟩,
      ⟨(some 6), none, .load 1 false, [.slot 5], none⟩])
    (.block 0
     (.seq
      (.region [
        ⟨(some 8), none, .bin .eql, [.slot 6, .val (.int .i64 1)], none⟩,
        ⟨(some 7), none, .id, [.slot 8], none⟩])
      (.cond (.slot 7)
       (.seq
        (.region [
          ⟨(some 9), none, .id, [.slot 0], none⟩,
          ⟨(some 10), none, .nilchk, [.slot 9], none⟩,
          ⟨(some 11), none, .faddr 1, [.slot 10], none⟩,
          ⟨(some 12), none, .buildSl 1 1 .nilptr [0], [.slot 11], none⟩,
          ⟨(some 2), none, .id, [.slot 12], none⟩])
        (.ret))
       (.seq
        (.region [
          ⟨(some 14), none, .bin .eql, [.slot 6, .val (.int .i64 3)], none⟩,
          ⟨(some 13), none, .id, [.slot 14], none⟩])
        (.cond (.slot 13)
         (.seq
          (.region [
            ⟨(some 15), none, .id, [.slot 0], none⟩,
            ⟨(some 16), none, .nilchk, [.slot 15], none⟩,
            ⟨(some 17), none, .faddr 1, [.slot 16], none⟩,
            ⟨(some 18), none, .id, [.slot 0], none⟩,
            ⟨(some 19), none, .nilchk, [.slot 18], none⟩,
            ⟨(some 20), none, .faddr 3, [.slot 19], none⟩,
            ⟨(some 21), none, .id, [.slot 0], none⟩,
            ⟨(some 22), none, .nilchk, [.slot 21], none⟩,
            ⟨(some 23), none, .faddr 2, [.slot 22], none⟩,
            ⟨(some 24), none, .buildSl 1 3 .nilptr [0, 1, 2], [.slot 17, .slot 20, .slot 23], none⟩,
            ⟨(some 2), none, .id, [.slot 24], none⟩])
          (.ret))
         (.seq
          (.region [
            ⟨(some 26), none, .bin .eql, [.slot 6, .val (.int .i64 5)], none⟩,
            ⟨(some 25), none, .id, [.slot 26], none⟩])
          (.cond (.slot 25)
           (.seq
            (.region [
              ⟨(some 27), none, .id, [.slot 0], none⟩,
              ⟨(some 28), none, .nilchk, [.slot 27], none⟩,
              ⟨(some 29), none, .faddr 1, [.slot 28], none⟩,
              ⟨(some 30), none, .id, [.slot 0], none⟩,
              ⟨(some 31), none, .nilchk, [.slot 30], none⟩,
              ⟨(some 32), none, .faddr 3, [.slot 31], none⟩,
              ⟨(some 33), none, .id, [.slot 0], none⟩,
              ⟨(some 34), none, .nilchk, [.slot 33], none⟩,
              ⟨(some 35), none, .faddr 2, [.slot 34], none⟩,
              ⟨(some 36), none, .id, [.slot 0], none⟩,
              ⟨(some 37), none, .nilchk, [.slot 36], none⟩,
              ⟨(some 38), none, .faddr 4, [.slot 37], none⟩,
              ⟨(some 39), none, .buildSl 1 4 .nilptr [0, 1, 2, 3], [.slot 29, .slot 32, .slot 35, .slot 38], none⟩,
              ⟨(some 2), none, .id, [.slot 39], none⟩])
            (.ret))
           (.skip)))))))))
   (.seq
    (.region [
      ⟨(some 40), none, .id, [.slot 0], none⟩,
      ⟨(some 41), none, .nilchk, [.slot 40], none⟩,
      ⟨(some 42), none, .faddr 1, [.slot 41], none⟩,
      ⟨(some 43), none, .id, [.slot 0], none⟩,
      ⟨(some 44), none, .nilchk, [.slot 43], none⟩,
      ⟨(some 45), none, .faddr 4, [.slot 44], none⟩,
      ⟨(some 46), none, .buildSl 1 2 .nilptr [0, 1], [.slot 42, .slot 45], none⟩,
      ⟨(some 2), none, .id, [.slot 46], none⟩])
    (.ret)))
def F_script_parts : IFun := ⟨47, [.slot 2], b_script_parts, 8, 0⟩
theorem c_script_parts : cFun Tryd.prog [] 0 f_script_parts = some F_script_parts := by kernel_rfl

def b_value_String : ICode :=
 .seq
  (.region [
    ⟨(some 1), none, .boxL, [.slot 0], none⟩,
    ⟨(some 2), none, .id, [.val (.str ⟨#[]⟩)], none⟩])
  (.seq
   (.seq
    (.region [
      ⟨(some 3), none, .load 3 true, [.slot 1], none⟩,
      ⟨(some 4), none, .call f_value_Right, [.slot 3], none⟩,
      ⟨(some 5), none, .un .not, [.slot 4], none⟩])
    (.cond (.slot 5)
     (.seq
      (.region [
        ⟨(some 2), none, .id, [.val (.str ⟨#[]⟩)], none⟩])
      (.ret))
     (.skip)))
   (.seq
    (.seq
     (.region [
       ⟨(some 6), none, .faddr 0, [.slot 1], none⟩,
       ⟨(some 7), none, .load 1 false, [.slot 6], none⟩])
     (.block 0
      (.seq
       (.region [
         ⟨(some 9), none, .bin .eql, [.slot 7, .val (.int .i64 0)], none⟩,
         ⟨(some 8), none, .id, [.slot 9], none⟩])
       (.cond (.slot 8)
        (.seq
         (.region [
           ⟨(some 2), none, .id, [.val (.str ⟨#[110, 117, 108, 108]⟩)], none⟩])
         (.ret))
        (.seq
         (.region [
           ⟨(some 11), none, .bin .eql, [.slot 7, .val (.int .i64 1)], none⟩,
           ⟨(some 10), none, .id, [.slot 11], none⟩])
         (.cond (.slot 10)
          (.seq
           (.region [
             ⟨(some 12), none, .faddr 1, [.slot 1], none⟩,
             ⟨(some 13), none, .load 1 false, [.slot 12], none⟩,
             ⟨(some 14), none, .bin .eql, [.slot 13, .val (.int .i64 1)], none⟩,
             ⟨(some 15), none, .call f_strconv_FormatBool, [.slot 14], none⟩,
             ⟨(some 2), none, .id, [.slot 15], none⟩])
           (.ret))
          (.seq
           (.region [
             ⟨(some 17), none, .bin .eql, [.slot 7, .val (.int .i64 2)], none⟩,
             ⟨(some 16), none, .id, [.slot 17], none⟩])
           (.cond (.slot 16)
            (.seq
             (.region [
               ⟨(some 18), none, .faddr 1, [.slot 1], none⟩,
               ⟨(some 19), none, .load 1 false, [.slot 18], none⟩,
               ⟨(some 20), none, .call f_strconv_Itoa, [.slot 19], none⟩,
               ⟨(some 2), none, .id, [.slot 20], none⟩])
             (.ret))
            (.seq
             (.region [
               ⟨(some 22), none, .bin .eql, [.slot 7, .val (.int .i64 3)], none⟩,
               ⟨(some 21), none, .id, [.slot 22], none⟩])
             (.cond (.slot 21)
              (.seq
               (.region [
                 ⟨(some 23), none, .faddr 2, [.slot 1], none⟩,
                 ⟨(some 24), none, .load 1 false, [.slot 23], none⟩,
                 ⟨(some 25), none, .call f_value_quoted, [.slot 24], none⟩,
                 ⟨(some 2), none, .id, [.slot 25], none⟩])
               (.ret))
              (.seq
               (.region [
                 ⟨(some 27), none, .bin .eql, [.slot 7, .val (.int .i64 4)], none⟩,
                 ⟨(some 26), none, .id, [.slot 27], none⟩])
               (.cond (.slot 26)
                (.seq
                 (.region [
                   ⟨(some 28), none, .faddr 2, [.slot 1], none⟩,
                   ⟨(some 29), none, .load 1 false, [.slot 28], none⟩,
                   ⟨(some 30), none, .bin .add, [.val (.str ⟨#[40]⟩), .slot 29], none⟩,
                   ⟨(some 31), none, .bin .add, [.slot 30, .val (.str ⟨#[41]⟩)], none⟩,
                   ⟨(some 2), none, .id, [.slot 31], none⟩])
                 (.ret))
                (.skip)))))))))))))
    (.seq
     (.region [
       ⟨(some 32), none, .faddr 2, [.slot 1], none⟩,
       ⟨(some 33), none, .load 1 false, [.slot 32], none⟩,
       ⟨(some 34), none, .bin .add, [.val (.str ⟨#[91]⟩), .slot 33], none⟩,
       ⟨(some 35), none, .bin .add, [.slot 34, .val (.str ⟨#[93]⟩)], none⟩,
       ⟨(some 2), none, .id, [.slot 35], none⟩])
     (.ret))))
def F_value_String : IFun := ⟨36, [.slot 2], b_value_String, 8, 0⟩
theorem c_value_String : cFun Tryd.prog [1048577, 2097168, 2097198] 0 f_value_String = some F_value_String := by kernel_rfl

def F_strings_Cut : IFun := ⟨8, [], .trap, 0, 14⟩

def F_strconv_Atoi : IFun := ⟨8, [], .trap, 110, 13⟩

def b_value_Parse : ICode :=
 .seq
  (.region [
    ⟨(some 2), none, .allocL [(.int .i64 0), (.int .i64 0), (.str ⟨#[]⟩)], [], none⟩,
    ⟨(some 3), none, .id, [.val (.bool false)], none⟩])
  (.seq
   (.region [
     ⟨(some 5), none, .id, [.slot 0], none⟩,
     ⟨(some 6), none, .call f_value_guess, [.slot 5], none⟩,
     ⟨(some 4), none, .allocL [(.int .i64 0), (.int .i64 0), (.str ⟨#[]⟩)], [], none⟩,
     ⟨none, none, .store 3, [.slot 4, .slot 6], none⟩])
   (.seq
    (.seq
     (.region [
       ⟨(some 7), none, .id, [.slot 0], none⟩,
       ⟨(some 8), none, .bin .eql, [.slot 7, .val (.str ⟨#[]⟩)], none⟩,
       ⟨(some 9), none, .id, [.slot 8], none⟩,
       ⟨(some 10), (some (9, false)), .load 3 true, [.slot 4], none⟩,
       ⟨(some 11), (some (9, false)), .call f_value_String, [.slot 10], none⟩,
       ⟨(some 12), (some (9, false)), .id, [.slot 0], none⟩,
       ⟨(some 13), (some (9, false)), .bin .neq, [.slot 11, .slot 12], none⟩,
       ⟨(some 14), none, .pick, [.slot 9, .val (.bool true), .slot 13], none⟩])
     (.cond (.slot 14)
      (.seq
       (.region [
         ⟨(some 15), none, .build [(.int .i64 0), (.int .i64 0), (.str ⟨#[]⟩)] [], [], none⟩,
         ⟨none, none, .store 3, [.slot 2, .slot 15], none⟩,
         ⟨(some 3), none, .id, [.val (.bool false)], none⟩])
       (.ret))
      (.skip)))
    (.seq
     (.region [
       ⟨(some 16), none, .load 3 true, [.slot 4], none⟩,
       ⟨none, none, .store 3, [.slot 2, .slot 16], none⟩,
       ⟨(some 3), none, .id, [.val (.bool true)], none⟩])
     (.ret))))
def F_value_Parse : IFun := ⟨17, [.cell 2 3 true, .slot 3], b_value_Parse, 8, 0⟩
theorem c_value_Parse : cFun Tryd.prog [1048578, 1048580] 0 f_value_Parse = some F_value_Parse := by kernel_rfl

def L0_value_names : ICode :=
 .seq
  (.region [
    ⟨(some 8), none, .bin .lss, [.slot 7, .slot 6], none⟩])
  (.seq
   (.cond (.slot 8)
    (.skip)
    (.exit 0))
   (.seq
    (.block 1
     (.seq
      (.region [
        ⟨(some 9), none, .ixaddr 1, [.slot 5, .slot 7], none⟩,
        ⟨(some 10), none, .load 1 false, [.slot 9], none⟩,
        ⟨(some 4), none, .id, [.slot 10], none⟩])
      (.seq
       (.region [
         ⟨(some 11), none, .id, [.slot 4], none⟩,
         ⟨(some 12), none, .call f_value_Name, [.slot 11], none⟩,
         ⟨(some 13), none, .un .not, [.slot 12], none⟩])
       (.cond (.slot 13)
        (.seq
         (.region [
           ⟨(some 2), none, .id, [.val (.bool false)], none⟩])
         (.ret))
        (.skip)))))
    (.region [
      ⟨(some 14), none, .bin .add, [.slot 7, .val (.int .i64 1)], none⟩,
      ⟨(some 7), none, .id, [.slot 14], none⟩])))
def b_value_names : ICode :=
 .seq
  (.region [
    ⟨(some 2), none, .id, [.val (.bool false)], none⟩])
  (.seq
   (.seq
    (.region [
      ⟨(some 5), none, .id, [.slot 0], none⟩,
      ⟨(some 6), none, .lensl, [.slot 5], none⟩,
      ⟨(some 7), none, .id, [.val (.int .i64 0)], none⟩])
    (.block 0
     (.loop L0_value_names)))
   (.seq
    (.region [
      ⟨(some 2), none, .id, [.val (.bool true)], none⟩])
    (.ret)))
def F_value_names : IFun := ⟨15, [.slot 2], b_value_names, 8, 0⟩
theorem c_value_names : cFun Tryd.prog [] 0 f_value_names = some F_value_names := by kernel_rfl

def b_value_empty : ICode :=
 .seq
  (.region [
    ⟨(some 2), none, .id, [.val (.bool false)], none⟩])
  (.seq
   (.region [
     ⟨(some 3), none, .id, [.slot 0], none⟩,
     ⟨(some 4), none, .call f_strings_Join, [.slot 3, .val (.str ⟨#[]⟩)], none⟩,
     ⟨(some 5), none, .bin .eql, [.slot 4, .val (.str ⟨#[]⟩)], none⟩,
     ⟨(some 2), none, .id, [.slot 5], none⟩])
   (.ret))
def F_value_empty : IFun := ⟨6, [.slot 2], b_value_empty, 8, 0⟩
theorem c_value_empty : cFun Tryd.prog [2097170] 0 f_value_empty = some F_value_empty := by kernel_rfl

def L0_value_plain : ICode :=
 .seq
  (.region [
    ⟨(some 7), none, .next, [.slot 6], none⟩,
    ⟨(some 8), none, .extract 0, [.slot 7], none⟩])
  (.seq
   (.cond (.slot 8)
    (.skip)
    (.exit 0))
   (.block 1
    (.seq
     (.region [
       ⟨(some 9), none, .extract 2, [.slot 7], none⟩,
       ⟨(some 4), none, .id, [.slot 9], none⟩])
     (.seq
      (.region [
        ⟨(some 10), none, .id, [.slot 4], none⟩,
        ⟨(some 11), none, .bin .lss, [.slot 10, .val (.int .i32 32)], none⟩,
        ⟨(some 12), none, .id, [.slot 11], none⟩,
        ⟨(some 13), (some (12, false)), .id, [.slot 4], none⟩,
        ⟨(some 14), (some (12, false)), .bin .gtr, [.slot 13, .val (.int .i32 126)], none⟩,
        ⟨(some 15), none, .pick, [.slot 12, .val (.bool true), .slot 14], none⟩])
      (.cond (.slot 15)
       (.seq
        (.region [
          ⟨(some 2), none, .id, [.val (.bool false)], none⟩])
        (.ret))
       (.skip))))))
def b_value_plain : ICode :=
 .seq
  (.region [
    ⟨(some 2), none, .id, [.val (.bool false)], none⟩])
  (.seq
   (.seq
    (.region [
      ⟨(some 5), none, .id, [.slot 0], none⟩,
      ⟨(some 6), none, .range, [.slot 5], none⟩])
    (.block 0
     (.loop L0_value_plain)))
   (.seq
    (.region [
      ⟨(some 16), none, .id, [.slot 0], none⟩,
      ⟨(some 17), none, .lenstr, [.slot 16], none⟩,
      ⟨(some 18), none, .bin .leq, [.slot 17, .val (.int .i64 64)], none⟩,
      ⟨(some 2), none, .id, [.slot 18], none⟩])
    (.ret)))
def F_value_plain : IFun := ⟨19, [.slot 2], b_value_plain, 8, 0⟩
theorem c_value_plain : cFun Tryd.prog [] 0 f_value_plain = some F_value_plain := by kernel_rfl

def L0_value_Name : ICode :=
 .seq
  (.region [
    ⟨(some 20), none, .bin .lss, [.slot 19, .slot 18], none⟩])
  (.seq
   (.cond (.slot 20)
    (.skip)
    (.exit 0))
   (.seq
    (.block 1
     (.seq
      (.region [
        ⟨(some 21), none, .id, [.slot 19], none⟩,
        ⟨(some 3), none, .id, [.slot 21], none⟩])
      (.seq
       (.region [
         ⟨(some 22), none, .id, [.slot 0], none⟩,
         ⟨(some 23), none, .id, [.slot 3], none⟩,
         ⟨(some 24), none, .ixstr, [.slot 22, .slot 23], none⟩,
         ⟨(some 25), none, .call f_value_inner, [.slot 24], none⟩,
         ⟨(some 26), none, .un .not, [.slot 25], none⟩])
       (.cond (.slot 26)
        (.seq
         (.region [
           ⟨(some 2), none, .id, [.val (.bool false)], none⟩])
         (.ret))
        (.skip)))))
    (.region [
      ⟨(some 27), none, .bin .add, [.slot 19, .val (.int .i64 1)], none⟩,
      ⟨(some 19), none, .id, [.slot 27], none⟩])))
def b_value_Name : ICode :=
 .seq
  (.region [
    ⟨(some 2), none, .id, [.val (.bool false)], none⟩])
  (.seq
   (.seq
    (.region [
      ⟨(some 4), none, .id, [.slot 0], none⟩,
      ⟨(some 5), none, .bin .eql, [.slot 4, .val (.str ⟨#[]⟩)], none⟩,
      ⟨(some 6), none, .id, [.slot 5], none⟩,
      ⟨(some 7), (some (6, false)), .id, [.slot 0], none⟩,
      ⟨(some 8), (some (6, false)), .lenstr, [.slot 7], none⟩,
      ⟨(some 9), (some (6, false)), .bin .gtr, [.slot 8, .val (.int .i64 16)], none⟩,
      ⟨(some 10), none, .pick, [.slot 6, .val (.bool true), .slot 9], none⟩,
      ⟨(some 11), none, .id, [.slot 10], none⟩,
      ⟨(some 12), (some (11, false)), .id, [.slot 0], none⟩,
      ⟨(some 13), (some (11, false)), .ixstr, [.slot 12, .val (.int .i64 0)], none⟩,
      ⟨(some 14), (some (11, false)), .call f_value_letter, [.slot 13], none⟩,
      ⟨(some 15), (some (11, false)), .un .not, [.slot 14], none⟩,
      ⟨(some 16), none, .pick, [.slot 11, .val (.bool true), .slot 15], none⟩])
    (.cond (.slot 16)
     (.seq
      (.region [
        ⟨(some 2), none, .id, [.val (.bool false)], none⟩])
      (.ret))
     (.skip)))
   (.seq
    (.seq
     (.region [
       ⟨(some 17), none, .id, [.slot 0], none⟩,
       ⟨(some 18), none, .lenstr, [.slot 17], none⟩,
       ⟨(some 19), none, .id, [.val (.int .i64 0)], none⟩])
     (.block 0
      (.loop L0_value_Name)))
    (.seq
     (.region [
       ⟨(some 2), none, .id, [.val (.bool true)], none⟩])
     (.ret))))
def F_value_Name : IFun := ⟨28, [.slot 2], b_value_Name, 8, 0⟩
theorem c_value_Name : cFun Tryd.prog [] 0 f_value_Name = some F_value_Name := by kernel_rfl

def b_value_Link : ICode :=
 .seq
  (.region [
    ⟨(some 1), none, .boxL, [.slot 0], none⟩,
    ⟨(some 2), none, .allocL [(.str ⟨#[]⟩), (.str ⟨#[]⟩), (.str ⟨#[]⟩)], [], none⟩,
    ⟨(some 3), none, .id, [.val (.bool false)], none⟩])
  (.seq
   (.region [
     ⟨(some 5), none, .faddr 2, [.slot 1], none⟩,
     ⟨(some 6), none, .load 1 false, [.slot 5], none⟩,
     ⟨(some 7), none, .call f_strings_Split, [.slot 6, .val (.str ⟨#[62]⟩)], none⟩,
     ⟨(some 4), none, .id, [.slot 7], none⟩])
   (.seq
    (.seq
     (.region [
       ⟨(some 8), none, .faddr 0, [.slot 1], none⟩,
       ⟨(some 9), none, .load 1 false, [.slot 8], none⟩,
       ⟨(some 10), none, .bin .neq, [.slot 9, .val (.int .i64 5)], none⟩,
       ⟨(some 11), none, .id, [.slot 10], none⟩,
       ⟨(some 12), (some (11, false)), .faddr 1, [.slot 1], none⟩,
       ⟨(some 13), (some (11, false)), .load 1 false, [.slot 12], none⟩,
       ⟨(some 14), (some (11, false)), .bin .neq, [.slot 13, .val (.int .i64 0)], none⟩,
       ⟨(some 15), none, .pick, [.slot 11, .val (.bool true), .slot 14], none⟩,
       ⟨(some 16), none, .id, [.slot 15], none⟩,
       ⟨(some 17), (some (16, false)), .id, [.slot 4], none⟩,
       ⟨(some 18), (some (16, false)), .lensl, [.slot 17], none⟩,
       ⟨(some 19), (some (16, false)), .bin .neq, [.slot 18, .val (.int .i64 3)], none⟩,
       ⟨(some 20), none, .pick, [.slot 16, .val (.bool true), .slot 19], none⟩,
       ⟨(some 21), none, .id, [.slot 20], none⟩,
       ⟨(some 22), (some (21, false)), .id, [.slot 4], none⟩,
       ⟨(some 23), (some (21, false)), .call f_value_names, [.slot 22], none⟩,
       ⟨(some 24), (some (21, false)), .un .not, [.slot 23], none⟩,
       ⟨(some 25), none, .pick, [.slot 21, .val (.bool true), .slot 24], none⟩])
     (.cond (.slot 25)
      (.seq
       (.region [
         ⟨(some 26), none, .build [(.str ⟨#[]⟩), (.str ⟨#[]⟩), (.str ⟨#[]⟩)] [], [], none⟩,
         ⟨none, none, .store 3, [.slot 2, .slot 26], none⟩,
         ⟨(some 3), none, .id, [.val (.bool false)], none⟩])
       (.ret))
      (.skip)))
    (.seq
     (.region [
       ⟨(some 27), none, .id, [.slot 4], none⟩,
       ⟨(some 28), none, .ixaddr 1, [.slot 27, .val (.int .i64 0)], none⟩,
       ⟨(some 29), none, .load 1 false, [.slot 28], (some (.el))⟩,
       ⟨(some 30), none, .id, [.slot 4], none⟩,
       ⟨(some 31), none, .ixaddr 1, [.slot 30, .val (.int .i64 1)], none⟩,
       ⟨(some 32), none, .load 1 false, [.slot 31], (some (.el))⟩,
       ⟨(some 33), none, .id, [.slot 4], none⟩,
       ⟨(some 34), none, .ixaddr 1, [.slot 33, .val (.int .i64 2)], none⟩,
       ⟨(some 35), none, .load 1 false, [.slot 34], (some (.el))⟩,
       ⟨(some 36), none, .build [(.str ⟨#[]⟩), (.str ⟨#[]⟩), (.str ⟨#[]⟩)] [(0, 1), (2, 1), (1, 1)], [.slot 29, .slot 32, .slot 35], none⟩,
       ⟨none, none, .store 3, [.slot 2, .slot 36], (some (.loc 2))⟩,
       ⟨(some 3), none, .id, [.val (.bool true)], none⟩])
     (.ret))))
def F_value_Link : IFun := ⟨37, [.cell 2 3 true, .slot 3], b_value_Link, 8, 0⟩
theorem c_value_Link : cFun Tryd.prog [1048577, 1048578, 2097210] 0 f_value_Link = some F_value_Link := by kernel_rfl

def b_strconv_FormatBool : ICode :=
 .seq
  (.region [
    ⟨(some 2), none, .id, [.val (.str ⟨#[]⟩)], none⟩])
  (.seq
   (.region [
     ⟨(some 3), none, .id, [.slot 0], none⟩,
     ⟨(some 4), none, .call f_strconv_FormatBool_59, [.slot 3], none⟩,
     ⟨(some 2), none, .id, [.slot 4], none⟩])
   (.ret))
def F_strconv_FormatBool : IFun := ⟨5, [.slot 2], b_strconv_FormatBool, 8, 0⟩
theorem c_strconv_FormatBool : cFun Tryd.prog [] 0 f_strconv_FormatBool = some F_strconv_FormatBool := by kernel_rfl

def L0_value_quoted : ICode :=
 .seq
  (.region [
    ⟨(some 11), none, .bin .lss, [.slot 10, .slot 9], none⟩])
  (.seq
   (.cond (.slot 11)
    (.skip)
    (.exit 0))
   (.seq
    (.block 1
     (.seq
      (.region [
        ⟨(some 12), none, .ixaddr 1, [.slot 8, .slot 10], none⟩,
        ⟨(some 13), none, .load 1 false, [.slot 12], none⟩,
        ⟨(some 5), none, .id, [.slot 13], none⟩])
      (.seq
       (.seq
        (.region [
          ⟨(some 14), none, .id, [.slot 5], none⟩,
          ⟨(some 15), none, .bin .eql, [.slot 14, .val (.int .u8 39)], none⟩,
          ⟨(some 16), none, .id, [.slot 15], none⟩,
          ⟨(some 17), (some (16, false)), .id, [.slot 5], none⟩,
          ⟨(some 18), (some (16, false)), .bin .eql, [.slot 17, .val (.int .u8 92)], none⟩,
          ⟨(some 19), none, .pick, [.slot 16, .val (.bool true), .slot 18], none⟩])
        (.cond (.slot 19)
         (.region [
           ⟨(some 20), none, .call f_strings_Builder_WriteByte, [.slot 3, .val (.int .u8 92)], none⟩])
         (.skip)))
       (.region [
         ⟨(some 21), none, .id, [.slot 5], none⟩,
         ⟨(some 22), none, .call f_strings_Builder_WriteByte, [.slot 3, .slot 21], none⟩]))))
    (.region [
      ⟨(some 23), none, .bin .add, [.slot 10, .val (.int .i64 1)], none⟩,
      ⟨(some 10), none, .id, [.slot 23], none⟩])))
def b_value_quoted : ICode :=
 .seq
  (.region [
    ⟨(some 2), none, .id, [.val (.str ⟨#[]⟩)], none⟩])
  (.seq
   (.region [
     ⟨(some 3), none, .allocH 43 [.nilptr, .nilsl], [], none⟩])
   (.seq
    (.region [
      ⟨(some 6), none, .call f_strings_Builder_WriteByte, [.slot 3, .val (.int .u8 39)], none⟩])
    (.seq
     (.seq
      (.region [
        ⟨(some 7), none, .id, [.slot 0], none⟩,
        ⟨(some 8), none, .s2b, [.slot 7], none⟩,
        ⟨(some 9), none, .lensl, [.slot 8], none⟩,
        ⟨(some 10), none, .id, [.val (.int .i64 0)], none⟩])
      (.block 0
       (.loop L0_value_quoted)))
     (.seq
      (.region [
        ⟨(some 24), none, .call f_strings_Builder_WriteByte, [.slot 3, .val (.int .u8 39)], none⟩])
      (.seq
       (.region [
         ⟨(some 25), none, .call f_strings_Builder_String, [.slot 3], none⟩,
         ⟨(some 2), none, .id, [.slot 25], none⟩])
       (.ret))))))
def F_value_quoted : IFun := ⟨26, [.slot 2], b_value_quoted, 8, 1⟩
theorem c_value_quoted : cFun Tryd.prog [3, 2097163] 1 f_value_quoted = some F_value_quoted := by kernel_rfl

def b_value_guess : ICode :=
 .seq
  (.region [
    ⟨(some 2), none, .allocL [(.int .i64 0), (.int .i64 0), (.str ⟨#[]⟩)], [], none⟩])
  (.seq
   (.block 0
    (.seq
     (.region [
       ⟨(some 6), none, .id, [.slot 0], none⟩,
       ⟨(some 7), none, .bin .eql, [.slot 6, .val (.str ⟨#[116, 114, 117, 101]⟩)], none⟩,
       ⟨(some 5), none, .id, [.slot 7], none⟩])
     (.cond (.slot 5)
      (.seq
       (.region [
         ⟨(some 8), none, .build [(.int .i64 0), (.int .i64 0), (.str ⟨#[]⟩)] [(0, 1), (1, 1)], [.val (.int .i64 1), .val (.int .i64 1)], none⟩,
         ⟨none, none, .store 3, [.slot 2, .slot 8], none⟩])
       (.ret))
      (.seq
       (.region [
         ⟨(some 10), none, .id, [.slot 0], none⟩,
         ⟨(some 11), none, .bin .eql, [.slot 10, .val (.str ⟨#[102, 97, 108, 115, 101]⟩)], none⟩,
         ⟨(some 9), none, .id, [.slot 11], none⟩])
       (.cond (.slot 9)
        (.seq
         (.region [
           ⟨(some 12), none, .build [(.int .i64 0), (.int .i64 0), (.str ⟨#[]⟩)] [(0, 1)], [.val (.int .i64 1)], none⟩,
           ⟨none, none, .store 3, [.slot 2, .slot 12], none⟩])
         (.ret))
        (.seq
         (.region [
           ⟨(some 14), none, .id, [.slot 0], none⟩,
           ⟨(some 15), none, .bin .eql, [.slot 14, .val (.str ⟨#[110, 117, 108, 108]⟩)], none⟩,
           ⟨(some 16), none, .id, [.slot 15], none⟩,
           ⟨(some 17), (some (16, false)), .id, [.slot 0], none⟩,
           ⟨(some 18), (some (16, false)), .lenstr, [.slot 17], none⟩,
           ⟨(some 19), (some (16, false)), .bin .lss, [.slot 18, .val (.int .i64 1)], none⟩,
           ⟨(some 20), none, .pick, [.slot 16, .val (.bool true), .slot 19], none⟩,
           ⟨(some 13), none, .id, [.slot 20], none⟩])
         (.cond (.slot 13)
          (.seq
           (.region [
             ⟨(some 21), none, .build [(.int .i64 0), (.int .i64 0), (.str ⟨#[]⟩)] [], [], none⟩,
             ⟨none, none, .store 3, [.slot 2, .slot 21], none⟩])
           (.ret))
          (.seq
           (.region [
             ⟨(some 23), none, .id, [.slot 0], none⟩,
             ⟨(some 24), none, .lenstr, [.slot 23], none⟩,
             ⟨(some 25), none, .bin .gtr, [.slot 24, .val (.int .i64 1)], none⟩,
             ⟨(some 26), none, .id, [.slot 25], none⟩,
             ⟨(some 27), (some (26, true)), .id, [.slot 0], none⟩,
             ⟨(some 28), (some (26, true)), .ixstr, [.slot 27, .val (.int .i64 0)], none⟩,
             ⟨(some 29), (some (26, true)), .bin .eql, [.slot 28, .val (.int .u8 39)], none⟩,
             ⟨(some 30), none, .pick, [.slot 26, .slot 29, .val (.bool false)], none⟩,
             ⟨(some 22), none, .id, [.slot 30], none⟩])
           (.cond (.slot 22)
            (.seq
             (.region [
               ⟨(some 31), none, .id, [.slot 0], none⟩,
               ⟨(some 32), none, .call f_value_unquoted, [.slot 31], none⟩,
               ⟨(some 33), none, .build [(.int .i64 0), (.int .i64 0), (.str ⟨#[]⟩)] [(0, 1), (2, 1)], [.val (.int .i64 3), .slot 32], none⟩,
               ⟨none, none, .store 3, [.slot 2, .slot 33], none⟩])
             (.ret))
            (.seq
             (.region [
               ⟨(some 35), none, .id, [.slot 0], none⟩,
               ⟨(some 36), none, .lenstr, [.slot 35], none⟩,
               ⟨(some 37), none, .bin .gtr, [.slot 36, .val (.int .i64 1)], none⟩,
               ⟨(some 38), none, .id, [.slot 37], none⟩,
               ⟨(some 39), (some (38, true)), .id, [.slot 0], none⟩,
               ⟨(some 40), (some (38, true)), .ixstr, [.slot 39, .val (.int .i64 0)], none⟩,
               ⟨(some 41), (some (38, true)), .bin .eql, [.slot 40, .val (.int .u8 40)], none⟩,
               ⟨(some 42), none, .pick, [.slot 38, .slot 41, .val (.bool false)], none⟩,
               ⟨(some 34), none, .id, [.slot 42], none⟩])
             (.cond (.slot 34)
              (.seq
               (.region [
                 ⟨(some 43), none, .id, [.slot 0], none⟩,
                 ⟨(some 44), none, .id, [.slot 0], none⟩,
                 ⟨(some 45), none, .lenstr, [.slot 44], none⟩,
                 ⟨(some 46), none, .bin .sub, [.slot 45, .val (.int .i64 1)], none⟩,
                 ⟨(some 47), none, .slstr true true, [.slot 43, .val (.int .i64 1), .slot 46], none⟩,
                 ⟨(some 48), none, .build [(.int .i64 0), (.int .i64 0), (.str ⟨#[]⟩)] [(0, 1), (2, 1)], [.val (.int .i64 4), .slot 47], none⟩,
                 ⟨none, none, .store 3, [.slot 2, .slot 48], none⟩])
               (.ret))
              (.seq
               (.region [
                 ⟨(some 50), none, .id, [.slot 0], none⟩,
                 ⟨(some 51), none, .lenstr, [.slot 50], none⟩,
                 ⟨(some 52), none, .bin .gtr, [.slot 51, .val (.int .i64 1)], none⟩,
                 ⟨(some 53), none, .id, [.slot 52], none⟩,
                 ⟨(some 54), (some (53, true)), .id, [.slot 0], none⟩,
                 ⟨(some 55), (some (53, true)), .ixstr, [.slot 54, .val (.int .i64 0)], none⟩,
                 ⟨(some 56), (some (53, true)), .bin .eql, [.slot 55, .val (.int .u8 91)], none⟩,
                 ⟨(some 57), none, .pick, [.slot 53, .slot 56, .val (.bool false)], none⟩,
                 ⟨(some 49), none, .id, [.slot 57], none⟩])
               (.cond (.slot 49)
                (.seq
                 (.region [
                   ⟨(some 58), none, .id, [.slot 0], none⟩,
                   ⟨(some 59), none, .id, [.slot 0], none⟩,
                   ⟨(some 60), none, .lenstr, [.slot 59], none⟩,
                   ⟨(some 61), none, .bin .sub, [.slot 60, .val (.int .i64 1)], none⟩,
                   ⟨(some 62), none, .slstr true true, [.slot 58, .val (.int .i64 1), .slot 61], none⟩,
                   ⟨(some 63), none, .build [(.int .i64 0), (.int .i64 0), (.str ⟨#[]⟩)] [(0, 1), (2, 1)], [.val (.int .i64 5), .slot 62], none⟩,
                   ⟨none, none, .store 3, [.slot 2, .slot 63], none⟩])
                 (.ret))
                (.skip))))))))))))))
   (.seq
    (.region [
      ⟨(some 65), none, .id, [.slot 0], none⟩,
      ⟨(some 66), none, .call f_strconv_Atoi, [.slot 65], none⟩,
      ⟨(some 64), none, .id, [.slot 66], none⟩,
      ⟨(some 67), none, .extract 0, [.slot 64], none⟩,
      ⟨(some 68), none, .extract 1, [.slot 64], none⟩,
      ⟨(some 3), none, .id, [.slot 67], none⟩,
      ⟨(some 4), none, .id, [.slot 68], none⟩])
    (.seq
     (.region [
       ⟨(some 69), none, .id, [.slot 3], none⟩,
       ⟨(some 70), none, .build [(.int .i64 0), (.int .i64 0), (.str ⟨#[]⟩)] [(0, 1), (1, 1)], [.val (.int .i64 2), .slot 69], none⟩,
       ⟨none, none, .store 3, [.slot 2, .slot 70], none⟩])
     (.ret))))
def F_value_guess : IFun := ⟨71, [.cell 2 3 true], b_value_guess, 8, 0⟩
theorem c_value_guess : cFun Tryd.prog [1048578, 2097219, 2097188] 0 f_value_guess = some F_value_guess := by kernel_rfl

def b_value_letter : ICode :=
 .seq
  (.region [
    ⟨(some 2), none, .id, [.val (.bool false)], none⟩])
  (.seq
   (.region [
     ⟨(some 3), none, .id, [.slot 0], none⟩,
     ⟨(some 4), none, .bin .geq, [.slot 3, .val (.int .u8 97)], none⟩,
     ⟨(some 5), none, .id, [.slot 4], none⟩,
     ⟨(some 6), (some (5, true)), .id, [.slot 0], none⟩,
     ⟨(some 7), (some (5, true)), .bin .leq, [.slot 6, .val (.int .u8 122)], none⟩,
     ⟨(some 8), none, .pick, [.slot 5, .slot 7, .val (.bool false)], none⟩,
     ⟨(some 9), none, .id, [.slot 8], none⟩,
     ⟨(some 10), (some (9, false)), .id, [.slot 0], none⟩,
     ⟨(some 11), (some (9, false)), .bin .geq, [.slot 10, .val (.int .u8 65)], none⟩,
     ⟨(some 12), (some (9, false)), .id, [.slot 11], none⟩,
     ⟨(some 13), (some (12, true)), .id, [.slot 0], none⟩,
     ⟨(some 14), (some (12, true)), .bin .leq, [.slot 13, .val (.int .u8 90)], none⟩,
     ⟨(some 15), (some (9, false)), .pick, [.slot 12, .slot 14, .val (.bool false)], none⟩,
     ⟨(some 16), none, .pick, [.slot 9, .val (.bool true), .slot 15], none⟩,
     ⟨(some 2), none, .id, [.slot 16], none⟩])
   (.ret))
def F_value_letter : IFun := ⟨17, [.slot 2], b_value_letter, 8, 0⟩
theorem c_value_letter : cFun Tryd.prog [] 0 f_value_letter = some F_value_letter := by kernel_rfl

def b_value_inner : ICode :=
 .seq
  (.region [
    ⟨(some 2), none, .id, [.val (.bool false)], none⟩])
  (.seq
   (.region [
     ⟨(some 3), none, .id, [.slot 0], none⟩,
     ⟨(some 4), none, .call f_value_letter, [.slot 3], none⟩,
     ⟨(some 5), none, .id, [.slot 4], none⟩,
     ⟨(some 6), (some (5, false)), .id, [.slot 0], none⟩,
     ⟨(some 7), (some (5, false)), .bin .geq, [.slot 6, .val (.int .u8 48)], none⟩,
     ⟨(some 8), (some (5, false)), .id, [.slot 7], none⟩,
     ⟨(some 9), (some (8, true)), .id, [.slot 0], none⟩,
     ⟨(some 10), (some (8, true)), .bin .leq, [.slot 9, .val (.int .u8 57)], none⟩,
     ⟨(some 11), (some (5, false)), .pick, [.slot 8, .slot 10, .val (.bool false)], none⟩,
     ⟨(some 12), none, .pick, [.slot 5, .val (.bool true), .slot 11], none⟩,
     ⟨(some 13), none, .id, [.slot 12], none⟩,
     ⟨(some 14), (some (13, false)), .id, [.slot 0], none⟩,
     ⟨(some 15), (some (13, false)), .bin .eql, [.slot 14, .val (.int .u8 95)], none⟩,
     ⟨(some 16), none, .pick, [.slot 13, .val (.bool true), .slot 15], none⟩,
     ⟨(some 2), none, .id, [.slot 16], none⟩])
   (.ret))
def F_value_inner : IFun := ⟨17, [.slot 2], b_value_inner, 8, 0⟩
theorem c_value_inner : cFun Tryd.prog [] 0 f_value_inner = some F_value_inner := by kernel_rfl

def F_strings_Split : IFun := ⟨8, [], .trap, 0, 11⟩

def b_strconv_FormatBool_59 : ICode :=
 .seq
  (.region [
    ⟨(some 2), none, .id, [.val (.str ⟨#[]⟩)], none⟩])
  (.seq
   (.seq
    (.region [
      ⟨(some 3), none, .id, [.slot 0], none⟩])
    (.cond (.slot 3)
     (.seq
      (.region [
        ⟨(some 2), none, .id, [.val (.str ⟨#[116, 114, 117, 101]⟩)], none⟩])
      (.ret))
     (.skip)))
   (.seq
    (.region [
      ⟨(some 2), none, .id, [.val (.str ⟨#[102, 97, 108, 115, 101]⟩)], none⟩])
    (.ret)))
def F_strconv_FormatBool_59 : IFun := ⟨4, [.slot 2], b_strconv_FormatBool_59, 8, 0⟩
theorem c_strconv_FormatBool_59 : cFun Tryd.prog [] 0 f_strconv_FormatBool_59 = some F_strconv_FormatBool_59 := by kernel_rfl

def b_strings_Builder_WriteByte : ICode :=
 .seq
  (.region [
    ⟨(some 4), none, .id, [.val .niliface], none⟩])
  (.seq
   (.region [
     ⟨(some 5), none, .id, [.slot 0], none⟩,
     ⟨(some 6), none, .call f_strings_Builder_copyCheck, [.slot 5], none⟩])
   (.seq
    (.region [
      ⟨(some 7), none, .id, [.slot 0], none⟩,
      ⟨(some 8), none, .id, [.slot 0], none⟩,
      ⟨(some 9), none, .nilchk, [.slot 8], none⟩,
      ⟨(some 10), none, .faddr 1, [.slot 9], none⟩,
      ⟨(some 11), none, .load 1 false, [.slot 10], none⟩,
      ⟨(some 12), none, .id, [.slot 1], none⟩,
      ⟨(some 13), none, .buildSl 1 1 (.int .u8 0) [0], [.slot 12], none⟩,
      ⟨(some 14), none, .append 5 1 1, [.slot 11, .slot 13], none⟩,
      ⟨(some 15), none, .nilchk, [.slot 7], none⟩,
      ⟨(some 16), none, .faddr 1, [.slot 15], none⟩,
      ⟨none, none, .store 1, [.slot 16, .slot 14], none⟩])
    (.seq
     (.region [
       ⟨(some 4), none, .id, [.val .niliface], none⟩])
     (.ret))))
def F_strings_Builder_WriteByte : IFun := ⟨17, [.slot 4], b_strings_Builder_WriteByte, 8, 0⟩
theorem c_strings_Builder_WriteByte : cFun Tryd.prog [] 0 f_strings_Builder_WriteByte = some F_strings_Builder_WriteByte := by kernel_rfl

def L0_value_unquoted : ICode :=
 .seq
  (.seq
   (.region [
     ⟨(some 5), none, .id, [.slot 4], none⟩,
     ⟨(some 6), none, .id, [.slot 0], none⟩,
     ⟨(some 7), none, .lenstr, [.slot 6], none⟩,
     ⟨(some 8), none, .bin .sub, [.slot 7, .val (.int .i64 1)], none⟩,
     ⟨(some 9), none, .bin .lss, [.slot 5, .slot 8], none⟩])
   (.cond (.slot 9)
    (.skip)
    (.exit 0)))
  (.seq
   (.block 1
    (.seq
     (.seq
      (.region [
        ⟨(some 12), none, .id, [.slot 0], none⟩,
        ⟨(some 13), none, .id, [.slot 4], none⟩,
        ⟨(some 14), none, .ixstr, [.slot 12, .slot 13], none⟩,
        ⟨(some 15), none, .bin .eql, [.slot 14, .val (.int .u8 92)], none⟩])
      (.cond (.slot 15)
       (.region [
         ⟨(some 16), none, .id, [.slot 4], none⟩,
         ⟨(some 17), none, .bin .add, [.slot 16, .val (.int .i64 1)], none⟩,
         ⟨(some 4), none, .id, [.slot 17], none⟩])
       (.skip)))
     (.region [
       ⟨(some 18), none, .id, [.slot 0], none⟩,
       ⟨(some 19), none, .id, [.slot 4], none⟩,
       ⟨(some 20), none, .ixstr, [.slot 18, .slot 19], none⟩,
       ⟨(some 21), none, .call f_strings_Builder_WriteByte, [.slot 3, .slot 20], none⟩])))
   (.region [
     ⟨(some 10), none, .id, [.slot 4], none⟩,
     ⟨(some 11), none, .bin .add, [.slot 10, .val (.int .i64 1)], none⟩,
     ⟨(some 4), none, .id, [.slot 11], none⟩]))
def b_value_unquoted : ICode :=
 .seq
  (.region [
    ⟨(some 2), none, .id, [.val (.str ⟨#[]⟩)], none⟩])
  (.seq
   (.region [
     ⟨(some 3), none, .allocH 43 [.nilptr, .nilsl], [], none⟩])
   (.seq
    (.seq
     (.region [
       ⟨(some 4), none, .id, [.val (.int .i64 1)], none⟩])
     (.block 0
      (.loop L0_value_unquoted)))
    (.seq
     (.region [
       ⟨(some 22), none, .call f_strings_Builder_String, [.slot 3], none⟩,
       ⟨(some 2), none, .id, [.slot 22], none⟩])
     (.ret))))
def F_value_unquoted : IFun := ⟨23, [.slot 2], b_value_unquoted, 8, 1⟩
theorem c_value_unquoted : cFun Tryd.prog [3, 2097163] 1 f_value_unquoted = some F_value_unquoted := by kernel_rfl

def rows : List (Nat × List Nat × IFun) := [
  (3, [2097156, 2097158, 2097159], F_hedgerowlaw29_ScriptJoins),
  (4, [2097158, 2097159], F_hedgerowlaw29_fixed),
  (5, [1048580, 1048582], F_hedgerowlaw29_few),
  (6, [4, 1048582, 2097161, 2097163], F_script_Text),
  (7, [10, 2097158], F_script_Read),
  (8, [1048582, 1048583], F_hedgerowref29_Same),
  (9, [1, 1048585, 2097165, 2097166, 2097168, 2097170, 2097171], F_script_step),
  (10, [], F_strings_Builder_WriteString),
  (11, [], F_strings_Builder_String),
  (12, [3, 2, 1048583, 2097165, 2097177], F_script_reader_step),
  (13, [], F_script_names),
  (14, [1], F_script_plain),
  (15, [], F_script_own),
  (16, [], F_strconv_Itoa),
  (17, [], F_script_turned),
  (18, [], F_strings_Join),
  (19, [1, 2097182, 2097183, 2097170], F_script_Change),
  (20, [], F_strings_Builder_copyCheck),
  (21, [2097187], F_script_reader_line),
  (22, [], F_slices_Indexstringstring),
  (23, [2097187], F_script_word),
  (24, [2097188], F_script_reader_number),
  (25, [5, 4, 1048578, 2097182, 2097183, 2097171], F_script_ReadChange),
  (28, [1048577], F_value_Elem),
  (29, [1048577, 1048579], F_value_Right),
  (30, [], F_script_ops),
  (31, [], F_script_elems),
  (32, [], F_script_parts),
  (33, [1048577, 2097168, 2097198], F_value_String),
  (35, [], F_strings_Cut),
  (36, [], F_strconv_Atoi),
  (37, [1048578, 1048580], F_value_Parse),
  (40, [], F_value_names),
  (41, [2097170], F_value_empty),
  (42, [], F_value_plain),
  (43, [], F_value_Name),
  (44, [1048577, 1048578, 2097210], F_value_Link),
  (45, [], F_strconv_FormatBool),
  (46, [3, 2097163], F_value_quoted),
  (50, [1048578, 2097219, 2097188], F_value_guess),
  (56, [], F_value_letter),
  (57, [], F_value_inner),
  (58, [], F_strings_Split),
  (59, [], F_strconv_FormatBool_59),
  (60, [], F_strings_Builder_WriteByte),
  (67, [3, 2097163], F_value_unquoted)]
def T : Nat → Option IFun := tableOf rows
theorem T_rows : RowsOk Tryd.prog rows :=
  .cons c_hedgerowlaw29_ScriptJoins (by decide) <|
  .cons c_hedgerowlaw29_fixed (by decide) <|
  .cons c_hedgerowlaw29_few (by decide) <|
  .cons c_script_Text (by decide) <|
  .cons c_script_Read (by decide) <|
  .cons c_hedgerowref29_Same (by decide) <|
  .cons c_script_step (by decide) <|
  .cons c_strings_Builder_WriteString (by decide) <|
  .lib lib17 (by decide) <|
  .cons c_script_reader_step (by decide) <|
  .cons c_script_names (by decide) <|
  .cons c_script_plain (by decide) <|
  .cons c_script_own (by decide) <|
  .lib lib12 (by decide) <|
  .cons c_script_turned (by decide) <|
  .lib lib10 (by decide) <|
  .cons c_script_Change (by decide) <|
  .lib lib20 (by decide) <|
  .cons c_script_reader_line (by decide) <|
  .cons c_slices_Indexstringstring (by decide) <|
  .cons c_script_word (by decide) <|
  .cons c_script_reader_number (by decide) <|
  .cons c_script_ReadChange (by decide) <|
  .cons c_value_Elem (by decide) <|
  .cons c_value_Right (by decide) <|
  .cons c_script_ops (by decide) <|
  .cons c_script_elems (by decide) <|
  .cons c_script_parts (by decide) <|
  .cons c_value_String (by decide) <|
  .lib lib14 (by decide) <|
  .lib lib13 (by decide) <|
  .cons c_value_Parse (by decide) <|
  .cons c_value_names (by decide) <|
  .cons c_value_empty (by decide) <|
  .cons c_value_plain (by decide) <|
  .cons c_value_Name (by decide) <|
  .cons c_value_Link (by decide) <|
  .cons c_strconv_FormatBool (by decide) <|
  .cons c_value_quoted (by decide) <|
  .cons c_value_guess (by decide) <|
  .cons c_value_letter (by decide) <|
  .cons c_value_inner (by decide) <|
  .lib lib11 (by decide) <|
  .cons c_strconv_FormatBool_59 (by decide) <|
  .cons c_strings_Builder_WriteByte (by decide) <|
  .cons c_value_unquoted (by decide) <|
  .nil
theorem T_ok : TableOk Tryd.prog T := tableOf_ok (by kernel_rfl) T_rows.all
theorem T_hedgerowlaw29_ScriptJoins : T f_hedgerowlaw29_ScriptJoins = some F_hedgerowlaw29_ScriptJoins := by kernel_rfl
theorem T_hedgerowlaw29_fixed : T f_hedgerowlaw29_fixed = some F_hedgerowlaw29_fixed := by kernel_rfl
theorem T_hedgerowlaw29_few : T f_hedgerowlaw29_few = some F_hedgerowlaw29_few := by kernel_rfl
theorem T_script_Text : T f_script_Text = some F_script_Text := by kernel_rfl
theorem T_script_Read : T f_script_Read = some F_script_Read := by kernel_rfl
theorem T_hedgerowref29_Same : T f_hedgerowref29_Same = some F_hedgerowref29_Same := by kernel_rfl
theorem T_script_step : T f_script_step = some F_script_step := by kernel_rfl
theorem T_strings_Builder_WriteString : T f_strings_Builder_WriteString = some F_strings_Builder_WriteString := by kernel_rfl
theorem T_strings_Builder_String : T f_strings_Builder_String = some F_strings_Builder_String := by kernel_rfl
theorem T_script_reader_step : T f_script_reader_step = some F_script_reader_step := by kernel_rfl
theorem T_script_names : T f_script_names = some F_script_names := by kernel_rfl
theorem T_script_plain : T f_script_plain = some F_script_plain := by kernel_rfl
theorem T_script_own : T f_script_own = some F_script_own := by kernel_rfl
theorem T_strconv_Itoa : T f_strconv_Itoa = some F_strconv_Itoa := by kernel_rfl
theorem T_script_turned : T f_script_turned = some F_script_turned := by kernel_rfl
theorem T_strings_Join : T f_strings_Join = some F_strings_Join := by kernel_rfl
theorem T_script_Change : T f_script_Change = some F_script_Change := by kernel_rfl
theorem T_strings_Builder_copyCheck : T f_strings_Builder_copyCheck = some F_strings_Builder_copyCheck := by kernel_rfl
theorem T_script_reader_line : T f_script_reader_line = some F_script_reader_line := by kernel_rfl
theorem T_slices_Indexstringstring : T f_slices_Indexstringstring = some F_slices_Indexstringstring := by kernel_rfl
theorem T_script_word : T f_script_word = some F_script_word := by kernel_rfl
theorem T_script_reader_number : T f_script_reader_number = some F_script_reader_number := by kernel_rfl
theorem T_script_ReadChange : T f_script_ReadChange = some F_script_ReadChange := by kernel_rfl
theorem T_value_Elem : T f_value_Elem = some F_value_Elem := by kernel_rfl
theorem T_value_Right : T f_value_Right = some F_value_Right := by kernel_rfl
theorem T_script_ops : T f_script_ops = some F_script_ops := by kernel_rfl
theorem T_script_elems : T f_script_elems = some F_script_elems := by kernel_rfl
theorem T_script_parts : T f_script_parts = some F_script_parts := by kernel_rfl
theorem T_value_String : T f_value_String = some F_value_String := by kernel_rfl
theorem T_strings_Cut : T f_strings_Cut = some F_strings_Cut := by kernel_rfl
theorem T_strconv_Atoi : T f_strconv_Atoi = some F_strconv_Atoi := by kernel_rfl
theorem T_value_Parse : T f_value_Parse = some F_value_Parse := by kernel_rfl
theorem T_value_names : T f_value_names = some F_value_names := by kernel_rfl
theorem T_value_empty : T f_value_empty = some F_value_empty := by kernel_rfl
theorem T_value_plain : T f_value_plain = some F_value_plain := by kernel_rfl
theorem T_value_Name : T f_value_Name = some F_value_Name := by kernel_rfl
theorem T_value_Link : T f_value_Link = some F_value_Link := by kernel_rfl
theorem T_strconv_FormatBool : T f_strconv_FormatBool = some F_strconv_FormatBool := by kernel_rfl
theorem T_value_quoted : T f_value_quoted = some F_value_quoted := by kernel_rfl
theorem T_value_guess : T f_value_guess = some F_value_guess := by kernel_rfl
theorem T_value_letter : T f_value_letter = some F_value_letter := by kernel_rfl
theorem T_value_inner : T f_value_inner = some F_value_inner := by kernel_rfl
theorem T_strings_Split : T f_strings_Split = some F_strings_Split := by kernel_rfl
theorem T_strconv_FormatBool_59 : T f_strconv_FormatBool_59 = some F_strconv_FormatBool_59 := by kernel_rfl
theorem T_strings_Builder_WriteByte : T f_strings_Builder_WriteByte = some F_strings_Builder_WriteByte := by kernel_rfl
theorem T_value_unquoted : T f_value_unquoted = some F_value_unquoted := by kernel_rfl
end Go.Proofs.YtalhcaadpgadkaaDoor
