/- By program (Gen): the functions of the program, as the shadow machine has them. -/
import Derived.Test.YtbcdhjalciljaaaDoorChecked
import Derived.Test.YtbcdhjalciljaaaDoorShT
import Derived.Test.YtbcdhjalciljaaaDoorLib
set_option linter.all false
namespace Go.Proofs.YtbcdhjalciljaaaDoor
open Go.Sh
set_option maxRecDepth 100000

abbrev f_main_main : Nat := 0
abbrev f_gosem_cut : Nat := 1
/-- gosem.cut.init -/
abbrev f_gosem_cut_init : Nat := 2
/-- hedgerow/hedgerowlaw01.ValueTexts -/
abbrev f_hedgerowlaw01_ValueTexts : Nat := 3
/-- hedgerow/hedgerowlaw01.ValueParses -/
abbrev f_hedgerowlaw01_ValueParses : Nat := 4
/-- hedgerow/hedgerowlaw01.ValueOrders -/
abbrev f_hedgerowlaw01_ValueOrders : Nat := 5
/-- hedgerow/hedgerowlaw12.SnapCuts -/
abbrev f_hedgerowlaw12_SnapCuts : Nat := 6
/-- hedgerow/hedgerowlaw29.ScriptJoins -/
abbrev f_hedgerowlaw29_ScriptJoins : Nat := 7
/-- hedgerow/hedgerowlaw07.StorePuts -/
abbrev f_hedgerowlaw07_StorePuts : Nat := 8
/-- hedgerow/hedgerowlaw01.fixed -/
abbrev f_hedgerowlaw01_fixed : Nat := 9
/-- hedgerow/value.String -/
abbrev f_value_String : Nat := 10
/-- hedgerow/hedgerowref01.Text -/
abbrev f_hedgerowref01_Text : Nat := 11
/-- hedgerow/value.Parse -/
abbrev f_value_Parse : Nat := 12
/-- hedgerow/hedgerowref01.Right -/
abbrev f_hedgerowref01_Right : Nat := 13
/-- hedgerow/hedgerowref01.Parse -/
abbrev f_hedgerowref01_Parse : Nat := 14
/-- hedgerow/value.Compare -/
abbrev f_value_Compare : Nat := 15
/-- hedgerow/hedgerowref01.Compare -/
abbrev f_hedgerowref01_Compare : Nat := 16
/-- hedgerow/hedgerowlaw12.fixed -/
abbrev f_hedgerowlaw12_fixed : Nat := 17
/-- hedgerow/hedgerowlaw12.few -/
abbrev f_hedgerowlaw12_few : Nat := 18
/-- hedgerow/snap.Bytes -/
abbrev f_snap_Bytes : Nat := 19
/-- hedgerow/snap.Parse -/
abbrev f_snap_Parse : Nat := 20
/-- hedgerow/snap.Same -/
abbrev f_snap_Same : Nat := 21
/-- hedgerow/hedgerowlaw29.fixed -/
abbrev f_hedgerowlaw29_fixed : Nat := 22
/-- hedgerow/hedgerowlaw29.few -/
abbrev f_hedgerowlaw29_few : Nat := 23
/-- hedgerow/script.Text -/
abbrev f_script_Text : Nat := 24
/-- hedgerow/script.Read -/
abbrev f_script_Read : Nat := 25
/-- hedgerow/hedgerowref29.Same -/
abbrev f_hedgerowref29_Same : Nat := 26
/-- hedgerow/hedgerowlaw07.fixed -/
abbrev f_hedgerowlaw07_fixed : Nat := 27
/-- hedgerow/store.New -/
abbrev f_store_New : Nat := 28
/-- hedgerow/hedgerowref01.Elem -/
abbrev f_hedgerowref01_Elem : Nat := 29
/-- hedgerow/hedgerowref06.Change -/
abbrev f_hedgerowref06_Change : Nat := 30
/-- hedgerow/hedgerowref07.First -/
abbrev f_hedgerowref07_First : Nat := 31
/-- (*hedgerow/store.Store).Put -/
abbrev f_store_Store_Put : Nat := 32
/-- (*hedgerow/store.Store).Entries -/
abbrev f_store_Store_Entries : Nat := 33
/-- hedgerow/hedgerowref07.Less -/
abbrev f_hedgerowref07_Less : Nat := 34
/-- hedgerow/store.Order -/
abbrev f_store_Order : Nat := 35
/-- hedgerow/value.Link -/
abbrev f_value_Link : Nat := 36
/-- hedgerow/value.Name -/
abbrev f_value_Name : Nat := 37
/-- hedgerow/value.Elem -/
abbrev f_value_Elem : Nat := 38
/-- hedgerow/value.OfLink -/
abbrev f_value_OfLink : Nat := 39
/-- hedgerow/value.Right -/
abbrev f_value_Right : Nat := 40
/-- strconv.FormatBool -/
abbrev f_strconv_FormatBool : Nat := 41
/-- strconv.Itoa -/
abbrev f_strconv_Itoa : Nat := 42
/-- hedgerow/value.quoted -/
abbrev f_value_quoted : Nat := 43
/-- hedgerow/hedgerowref01.Digits -/
abbrev f_hedgerowref01_Digits : Nat := 44
/-- hedgerow/value.guess -/
abbrev f_value_guess : Nat := 45
/-- hedgerow/hedgerowref01.plain -/
abbrev f_hedgerowref01_plain : Nat := 46
/-- hedgerow/hedgerowref01.Name -/
abbrev f_hedgerowref01_Name : Nat := 47
/-- hedgerow/hedgerowref01.Link -/
abbrev f_hedgerowref01_Link : Nat := 48
/-- hedgerow/hedgerowref01.number -/
abbrev f_hedgerowref01_number : Nat := 49
/-- cmp.Or[int] -/
abbrev f_cmp_Orint : Nat := 50
/-- cmp.Compare[int] -/
abbrev f_cmp_Compareint : Nat := 51
/-- cmp.Compare[string] -/
abbrev f_cmp_Comparestring : Nat := 52
/-- hedgerow/snap.Right -/
abbrev f_snap_Right : Nat := 53
/-- hedgerow/hedgerowref06.Short -/
abbrev f_hedgerowref06_Short : Nat := 54
/-- hedgerow/num.Put -/
abbrev f_num_Put : Nat := 55
/-- hedgerow/snap.putItem -/
abbrev f_snap_putItem : Nat := 56
/-- hedgerow/event.Put -/
abbrev f_event_Put : Nat := 57
/-- hedgerow/num.Read -/
abbrev f_num_Read : Nat := 58
/-- (*hedgerow/num.Reader).Num -/
abbrev f_num_Reader_Num : Nat := 59
/-- hedgerow/snap.rows[hedgerow/store.Item] -/
abbrev f_snap_rowsstore_Item : Nat := 60
/-- hedgerow/snap.readItem -/
abbrev f_snap_readItem : Nat := 61
/-- hedgerow/snap.rows[hedgerow/api.Event] -/
abbrev f_snap_rowsapi_Event : Nat := 62
/-- hedgerow/snap.Parse$1 -/
abbrev f_snap_Parse_1 : Nat := 63
/-- hedgerow/event.Read -/
abbrev f_event_Read : Nat := 64
/-- (*hedgerow/num.Reader).Fail -/
abbrev f_num_Reader_Fail : Nat := 65
/-- (*hedgerow/num.Reader).Done -/
abbrev f_num_Reader_Done : Nat := 66
/-- hedgerow/snap.Same$1 -/
abbrev f_snap_Same_1 : Nat := 67
/-- slices.Equal[[]hedgerow/store.Entry,hedgerow/store.Entry] -/
abbrev f_slices_Equalstore_Entrystore_Entry : Nat := 68
/-- slices.EqualFunc[[]hedgerow/store.Item,[]hedgerow/store.Item,hedgerow/store.Item,hedgerow/store.Item] -/
abbrev f_slices_EqualFuncstore_Itemstore_Itemstore_Itemstore_Item : Nat := 69
/-- slices.Equal[[]hedgerow/api.Event,hedgerow/api.Event] -/
abbrev f_slices_Equalapi_Eventapi_Event : Nat := 70
/-- hedgerow/script.step -/
abbrev f_script_step : Nat := 71
/-- (*strings.Builder).WriteString -/
abbrev f_strings_Builder_WriteString : Nat := 72
/-- (*strings.Builder).String -/
abbrev f_strings_Builder_String : Nat := 73
/-- (*hedgerow/script.reader).step -/
abbrev f_script_reader_step : Nat := 74
/-- (*hedgerow/store.Store).Do -/
abbrev f_store_Store_Do : Nat := 75
/-- (*hedgerow/store.Store).Has -/
abbrev f_store_Store_Has : Nat := 76
/-- (*hedgerow/store.Store).Len -/
abbrev f_store_Store_Len : Nat := 77
/-- hedgerow/store.entry -/
abbrev f_store_entry : Nat := 78
/-- hedgerow/store.byDot -/
abbrev f_store_byDot : Nat := 79
/-- (*hedgerow/store.Store).lay -/
abbrev f_store_Store_lay : Nat := 80
/-- slices.Clone[[]hedgerow/store.Entry,hedgerow/store.Entry] -/
abbrev f_slices_Clonestore_Entrystore_Entry : Nat := 81
/-- strings.Split -/
abbrev f_strings_Split : Nat := 82
/-- hedgerow/value.names -/
abbrev f_value_names : Nat := 83
/-- hedgerow/value.letter -/
abbrev f_value_letter : Nat := 84
/-- hedgerow/value.inner -/
abbrev f_value_inner : Nat := 85
/-- hedgerow/value.empty -/
abbrev f_value_empty : Nat := 86
/-- hedgerow/value.plain -/
abbrev f_value_plain : Nat := 87
/-- internal/strconv.FormatBool -/
abbrev f_strconv_FormatBool_88 : Nat := 88
/-- internal/strconv.Itoa -/
abbrev f_strconv_Itoa_89 : Nat := 89
/-- (*strings.Builder).WriteByte -/
abbrev f_strings_Builder_WriteByte : Nat := 90
/-- hedgerow/value.unquoted -/
abbrev f_value_unquoted : Nat := 91
/-- strconv.Atoi -/
abbrev f_strconv_Atoi : Nat := 92
/-- hedgerow/hedgerowref01.Split -/
abbrev f_hedgerowref01_Split : Nat := 93
/-- cmp.isNaN[int] -/
abbrev f_cmp_isNaNint : Nat := 94
/-- cmp.isNaN[string] -/
abbrev f_cmp_isNaNstring : Nat := 95
/-- hedgerow/vector.Right -/
abbrev f_vector_Right : Nat := 96
/-- hedgerow/snap.item -/
abbrev f_snap_item : Nat := 97
/-- hedgerow/event.Right -/
abbrev f_event_Right : Nat := 98
/-- hedgerow/vector.Knows -/
abbrev f_vector_Knows : Nat := 99
/-- hedgerow/num.Text -/
abbrev f_num_Text : Nat := 100
/-- hedgerow/snap.putValue -/
abbrev f_snap_putValue : Nat := 101
/-- hedgerow/num.Signed -/
abbrev f_num_Signed : Nat := 102
/-- hedgerow/num.take -/
abbrev f_num_take : Nat := 103
/-- (*hedgerow/num.Reader).Text -/
abbrev f_num_Reader_Text : Nat := 104
/-- hedgerow/snap.rows[hedgerow/store.Entry] -/
abbrev f_snap_rowsstore_Entry : Nat := 105
/-- hedgerow/snap.readEntry -/
abbrev f_snap_readEntry : Nat := 106
/-- hedgerow/event.next -/
abbrev f_event_next : Nat := 107
/-- hedgerow/script.names -/
abbrev f_script_names : Nat := 108
/-- hedgerow/script.plain -/
abbrev f_script_plain : Nat := 109
/-- hedgerow/script.own -/
abbrev f_script_own : Nat := 110
/-- hedgerow/script.turned -/
abbrev f_script_turned : Nat := 111
/-- strings.Join -/
abbrev f_strings_Join : Nat := 112
/-- hedgerow/script.Change -/
abbrev f_script_Change : Nat := 113
/-- (*strings.Builder).copyCheck -/
abbrev f_strings_Builder_copyCheck : Nat := 114
/-- (*hedgerow/script.reader).line -/
abbrev f_script_reader_line : Nat := 115
/-- slices.Index[[]string,string] -/
abbrev f_slices_Indexstringstring : Nat := 116
/-- hedgerow/script.word -/
abbrev f_script_word : Nat := 117
/-- (*hedgerow/script.reader).number -/
abbrev f_script_reader_number : Nat := 118
/-- hedgerow/script.ReadChange -/
abbrev f_script_ReadChange : Nat := 119
/-- slices.DeleteFunc[[]hedgerow/store.Entry,hedgerow/store.Entry] -/
abbrev f_slices_DeleteFuncstore_Entrystore_Entry : Nat := 120
/-- (*hedgerow/store.Store).Do$1 -/
abbrev f_store_Store_Do_1 : Nat := 121
/-- slices.BinarySearchFunc[[]hedgerow/store.Entry,hedgerow/store.Entry,hedgerow/store.Entry] -/
abbrev f_slices_BinarySearchFuncstore_Entrystore_Entrystore_Entry : Nat := 122
/-- slices.Insert[[]hedgerow/store.Entry,hedgerow/store.Entry] -/
abbrev f_slices_Insertstore_Entrystore_Entry : Nat := 123
/-- hedgerow/vector.Dot -/
abbrev f_vector_Dot : Nat := 124
/-- hedgerow/event.Change -/
abbrev f_event_Change : Nat := 125
/-- strings.genSplit -/
abbrev f_strings_genSplit : Nat := 126
/-- internal/strconv.FormatInt -/
abbrev f_strconv_FormatInt : Nat := 127
/-- internal/strconv.Atoi -/
abbrev f_strconv_Atoi_128 : Nat := 128
/-- strconv.toError -/
abbrev f_strconv_toError : Nat := 129
/-- hedgerow/snap.item$1 -/
abbrev f_snap_item_1 : Nat := 130
/-- slices.ContainsFunc[[]hedgerow/store.Entry,hedgerow/store.Entry] -/
abbrev f_slices_ContainsFuncstore_Entrystore_Entry : Nat := 131
/-- hedgerow/vector.Next -/
abbrev f_vector_Next : Nat := 132
/-- hedgerow/event.Of -/
abbrev f_event_Of : Nat := 133
/-- (*hedgerow/num.Reader).Signed -/
abbrev f_num_Reader_Signed : Nat := 134
/-- (*strings.Builder).Grow -/
abbrev f_strings_Builder_Grow : Nat := 135
/-- hedgerow/script.ops -/
abbrev f_script_ops : Nat := 136
/-- hedgerow/script.elems -/
abbrev f_script_elems : Nat := 137
/-- hedgerow/script.parts -/
abbrev f_script_parts : Nat := 138
abbrev f_abi_NoEscape : Nat := 139
/-- strings.Cut -/
abbrev f_strings_Cut : Nat := 140
/-- slices.IndexFunc[[]hedgerow/store.Entry,hedgerow/store.Entry] -/
abbrev f_slices_IndexFuncstore_Entrystore_Entry : Nat := 141
abbrev f_slices_overlapsstore_Entry : Nat := 142
/-- slices.rotateRight[hedgerow/store.Entry] -/
abbrev f_slices_rotateRightstore_Entry : Nat := 143
/-- hedgerow/event.may -/
abbrev f_event_may : Nat := 144
/-- strings.explode -/
abbrev f_strings_explode : Nat := 145
/-- strings.Count -/
abbrev f_strings_Count : Nat := 146
/-- strings.Index -/
abbrev f_strings_Index : Nat := 147
/-- internal/strconv.small -/
abbrev f_strconv_small : Nat := 148
/-- internal/strconv.numDigits -/
abbrev f_strconv_numDigits : Nat := 149
/-- internal/strconv.formatBase10 -/
abbrev f_strconv_formatBase10 : Nat := 150
/-- internal/strconv.formatBits -/
abbrev f_strconv_formatBits : Nat := 151
/-- internal/strconv.ParseInt -/
abbrev f_strconv_ParseInt : Nat := 152
/-- strconv.syntaxError -/
abbrev f_strconv_syntaxError : Nat := 153
/-- strconv.rangeError -/
abbrev f_strconv_rangeError : Nat := 154
/-- strconv.baseError -/
abbrev f_strconv_baseError : Nat := 155
/-- strconv.bitSizeError -/
abbrev f_strconv_bitSizeError : Nat := 156
/-- (*strings.Builder).grow -/
abbrev f_strings_Builder_grow : Nat := 157
/-- internal/stringslite.Cut -/
abbrev f_stringslite_Cut : Nat := 158
/-- slices.rotateLeft[hedgerow/store.Entry] -/
abbrev f_slices_rotateLeftstore_Entry : Nat := 159
/-- hedgerow/event.kept -/
abbrev f_event_kept : Nat := 160
/-- hedgerow/event.scalar -/
abbrev f_event_scalar : Nat := 161
/-- unicode/utf8.RuneCountInString -/
abbrev f_unicode_utf8_RuneCountInString : Nat := 162
/-- unicode/utf8.DecodeRuneInString -/
abbrev f_unicode_utf8_DecodeRuneInString : Nat := 163
abbrev f_bytealg_CountString : Nat := 164
/-- internal/stringslite.Index -/
abbrev f_stringslite_Index : Nat := 165
/-- internal/strconv.log10Pow2 -/
abbrev f_strconv_log10Pow2 : Nat := 166
/-- math/bits.Len64 -/
abbrev f_math_bits_Len64 : Nat := 167
/-- internal/strconv.bool2[int] -/
abbrev f_strconv_bool2int : Nat := 168
/-- internal/strconv.isPowerOfTwo -/
abbrev f_strconv_isPowerOfTwo : Nat := 169
/-- math/bits.TrailingZeros -/
abbrev f_math_bits_TrailingZeros : Nat := 170
/-- internal/strconv.ParseUint -/
abbrev f_strconv_ParseUint : Nat := 171
/-- internal/stringslite.Clone -/
abbrev f_stringslite_Clone : Nat := 172
/-- errors.New -/
abbrev f_errors_New : Nat := 173
abbrev f_bytealg_MakeNoZero : Nat := 174
/-- slices.Reverse[[]hedgerow/store.Entry,hedgerow/store.Entry] -/
abbrev f_slices_Reversestore_Entrystore_Entry : Nat := 175
/-- unicode/utf8.decodeRuneInStringSlow -/
abbrev f_unicode_utf8_decodeRuneInStringSlow : Nat := 176
/-- internal/stringslite.IndexByte -/
abbrev f_stringslite_IndexByte : Nat := 177
abbrev f_bytealg_IndexString : Nat := 178
/-- internal/bytealg.Cutover -/
abbrev f_bytealg_Cutover : Nat := 179
/-- internal/bytealg.IndexRabinKarp[string] -/
abbrev f_bytealg_IndexRabinKarpstring : Nat := 180
/-- math/bits.TrailingZeros32 -/
abbrev f_math_bits_TrailingZeros32 : Nat := 181
/-- math/bits.TrailingZeros64 -/
abbrev f_math_bits_TrailingZeros64 : Nat := 182
/-- internal/strconv.lower -/
abbrev f_strconv_lower : Nat := 183
/-- internal/strconv.underscoreOK -/
abbrev f_strconv_underscoreOK : Nat := 184
abbrev f_bytealg_IndexByteString : Nat := 185
/-- internal/bytealg.hashStr[string] -/
abbrev f_bytealg_hashStrstring : Nat := 186
abbrev f_runtime_boundsError_Error : Nat := 187
abbrev f_runtime_boundsError_RuntimeError : Nat := 188
abbrev f_runtime_errorString_Error : Nat := 189
abbrev f_runtime_errorString_RuntimeError : Nat := 190
abbrev f_runtime_plainError_Error : Nat := 191
abbrev f_runtime_plainError_RuntimeError : Nat := 192
abbrev f_runtime_errorAddressString_Error : Nat := 193
abbrev f_runtime_errorAddressString_RuntimeError : Nat := 194
abbrev f_runtime_TypeAssertionError_Error : Nat := 195
abbrev f_runtime_TypeAssertionError_RuntimeError : Nat := 196
abbrev f_runtime_PanicNilError_Error : Nat := 197
abbrev f_runtime_PanicNilError_RuntimeError : Nat := 198
abbrev f_abi_Type_Align : Nat := 199
abbrev f_runtime_maps_unhashableTypeError_Error : Nat := 200
abbrev f_runtime_maps_unhashableTypeError_RuntimeError : Nat := 201
abbrev f_strings_Builder_Reset : Nat := 202
abbrev f_strconv_Error_Error : Nat := 203
abbrev f_strconv_NumError_Error : Nat := 204
abbrev f_errors_errorString_Error : Nat := 205
abbrev f_abi_Kind_String : Nat := 206
abbrev f_varsdoorgosem_cut_varsholdsinitialisersaloneseethemanifestsrowcutvarswordlook11testfilestoo : Nat := 207
abbrev f_varsdoorstrconv_uint64pow10islaidbyitsowninitialiserplaindatalook11 : Nat := 208
abbrev f_varsdoormath_bits_deBruijn32tabislaidbyitsowninitialiserplaindatalook11 : Nat := 209
abbrev f_varsdoormath_bits_deBruijn64tabislaidbyitsowninitialiserplaindatalook11 : Nat := 210
abbrev f_varsdoorstrconv_ErrRangeislaidbyitsowncalloferrors_Newononeliterallook11 : Nat := 211
abbrev f_varsdoorstrconv_ErrSyntaxislaidbyitsowncalloferrors_Newononeliterallook11 : Nat := 212
abbrev f_varsdoorthelookofgosem_cut_varswentoverthefolderthatthecallernamedastherepositorysrootlook11 : Nat := 213
abbrev f_varsdoorunicode_utf8_acceptRangesislaidbyitsowninitialiserplaindatalook11 : Nat := 214
abbrev f_varsdoorunicode_utf8_firstislaidbyitstextalonepinned1 : Nat := 215
/-- gosem.cut.vars -/
abbrev f_gosem_cut_vars : Nat := 216
def b_hedgerowlaw01_ValueTexts : ICode :=
 .seq
  (.region [
    ⟨(some 1), none, .boxL, [.slot 0], none⟩,
    ⟨(some 2), none, .id, [.val (.bool false)], none⟩])
  (.seq
   (.seq
    (.region [
      ⟨(some 6), none, .call f_hedgerowlaw01_fixed, [], none⟩,
      ⟨(some 7), none, .un .not, [.slot 6], none⟩])
    (.cond (.slot 7)
     (.seq
      (.region [
        ⟨(some 2), none, .id, [.val (.bool false)], none⟩])
      (.ret))
     (.skip)))
   (.seq
    (.seq
     (.region [
       ⟨(some 8), none, .faddr 2, [.slot 1], none⟩,
       ⟨(some 9), none, .load 1 false, [.slot 8], none⟩,
       ⟨(some 10), none, .lenstr, [.slot 9], none⟩,
       ⟨(some 11), none, .bin .gtr, [.slot 10, .val (.int .i64 200)], none⟩])
     (.cond (.slot 11)
      (.seq
       (.region [
         ⟨(some 2), none, .id, [.val (.bool true)], none⟩])
       (.ret))
      (.skip)))
    (.seq
     (.region [
       ⟨(some 12), none, .load 3 true, [.slot 1], none⟩,
       ⟨(some 13), none, .call f_value_String, [.slot 12], none⟩,
       ⟨(some 3), none, .id, [.slot 13], none⟩])
     (.seq
      (.seq
       (.region [
         ⟨(some 14), none, .id, [.slot 3], none⟩,
         ⟨(some 15), none, .load 3 true, [.slot 1], none⟩,
         ⟨(some 16), none, .call f_hedgerowref01_Text, [.slot 15], none⟩,
         ⟨(some 17), none, .bin .neq, [.slot 14, .slot 16], none⟩])
       (.cond (.slot 17)
        (.seq
         (.region [
           ⟨(some 2), none, .id, [.val (.bool false)], none⟩])
         (.ret))
        (.skip)))
      (.seq
       (.region [
         ⟨(some 19), none, .id, [.slot 3], none⟩,
         ⟨(some 20), none, .call f_value_Parse, [.slot 19], none⟩,
         ⟨(some 18), none, .id, [.slot 20], none⟩,
         ⟨(some 21), none, .extract 0, [.slot 18], none⟩,
         ⟨(some 22), none, .extract 1, [.slot 18], none⟩,
         ⟨(some 4), none, .allocL [(.int .i64 0), (.int .i64 0), (.str ⟨#[]⟩)], [], none⟩,
         ⟨none, none, .store 3, [.slot 4, .slot 21], none⟩,
         ⟨(some 5), none, .id, [.slot 22], none⟩])
       (.seq
        (.region [
          ⟨(some 23), none, .id, [.slot 5], none⟩,
          ⟨(some 24), none, .load 3 true, [.slot 1], none⟩,
          ⟨(some 25), none, .call f_hedgerowref01_Right, [.slot 24], none⟩,
          ⟨(some 26), none, .eq1 false .bool, [.slot 23, .slot 25], none⟩,
          ⟨(some 27), none, .id, [.slot 26], none⟩,
          ⟨(some 28), (some (27, true)), .id, [.slot 5], none⟩,
          ⟨(some 29), (some (27, true)), .un .not, [.slot 28], none⟩,
          ⟨(some 30), (some (27, true)), .id, [.slot 29], none⟩,
          ⟨(some 31), (some (30, false)), .load 3 true, [.slot 4], none⟩,
          ⟨(some 32), (some (30, false)), .load 3 true, [.slot 1], none⟩,
          ⟨(some 33), (some (30, false)), .eqv false [(.int .i64), (.int .i64), .str], [.slot 31, .slot 32], none⟩,
          ⟨(some 34), (some (27, true)), .pick, [.slot 30, .val (.bool true), .slot 33], none⟩,
          ⟨(some 35), none, .pick, [.slot 27, .slot 34, .val (.bool false)], none⟩,
          ⟨(some 2), none, .id, [.slot 35], none⟩])
        (.ret)))))))
def F_hedgerowlaw01_ValueTexts : IFun := ⟨36, [.slot 2], b_hedgerowlaw01_ValueTexts, 8, 0⟩
theorem c_hedgerowlaw01_ValueTexts : cFun Tryd.prog [1048577, 1048580, 2097161] 0 f_hedgerowlaw01_ValueTexts = some F_hedgerowlaw01_ValueTexts := by kernel_rfl

def b_hedgerowlaw01_ValueParses : ICode :=
 .seq
  (.region [
    ⟨(some 2), none, .id, [.val (.bool false)], none⟩])
  (.seq
   (.seq
    (.region [
      ⟨(some 7), none, .call f_hedgerowlaw01_fixed, [], none⟩,
      ⟨(some 8), none, .un .not, [.slot 7], none⟩])
    (.cond (.slot 8)
     (.seq
      (.region [
        ⟨(some 2), none, .id, [.val (.bool false)], none⟩])
      (.ret))
     (.skip)))
   (.seq
    (.seq
     (.region [
       ⟨(some 9), none, .id, [.slot 0], none⟩,
       ⟨(some 10), none, .lenstr, [.slot 9], none⟩,
       ⟨(some 11), none, .bin .gtr, [.slot 10, .val (.int .i64 200)], none⟩])
     (.cond (.slot 11)
      (.seq
       (.region [
         ⟨(some 2), none, .id, [.val (.bool true)], none⟩])
       (.ret))
      (.skip)))
    (.seq
     (.region [
       ⟨(some 13), none, .id, [.slot 0], none⟩,
       ⟨(some 14), none, .call f_value_Parse, [.slot 13], none⟩,
       ⟨(some 12), none, .id, [.slot 14], none⟩,
       ⟨(some 15), none, .extract 0, [.slot 12], none⟩,
       ⟨(some 16), none, .extract 1, [.slot 12], none⟩,
       ⟨(some 3), none, .allocL [(.int .i64 0), (.int .i64 0), (.str ⟨#[]⟩)], [], none⟩,
       ⟨none, none, .store 3, [.slot 3, .slot 15], none⟩,
       ⟨(some 4), none, .id, [.slot 16], none⟩])
     (.seq
      (.region [
        ⟨(some 18), none, .id, [.slot 0], none⟩,
        ⟨(some 19), none, .call f_hedgerowref01_Parse, [.slot 18], none⟩,
        ⟨(some 17), none, .id, [.slot 19], none⟩,
        ⟨(some 20), none, .extract 0, [.slot 17], none⟩,
        ⟨(some 21), none, .extract 1, [.slot 17], none⟩,
        ⟨(some 5), none, .allocL [(.int .i64 0), (.int .i64 0), (.str ⟨#[]⟩)], [], none⟩,
        ⟨none, none, .store 3, [.slot 5, .slot 20], none⟩,
        ⟨(some 6), none, .id, [.slot 21], none⟩])
      (.seq
       (.region [
         ⟨(some 22), none, .id, [.slot 4], none⟩,
         ⟨(some 23), none, .id, [.slot 6], none⟩,
         ⟨(some 24), none, .eq1 false .bool, [.slot 22, .slot 23], none⟩,
         ⟨(some 25), none, .id, [.slot 24], none⟩,
         ⟨(some 26), (some (25, true)), .load 3 true, [.slot 3], none⟩,
         ⟨(some 27), (some (25, true)), .load 3 true, [.slot 5], none⟩,
         ⟨(some 28), (some (25, true)), .eqv false [(.int .i64), (.int .i64), .str], [.slot 26, .slot 27], none⟩,
         ⟨(some 29), none, .pick, [.slot 25, .slot 28, .val (.bool false)], none⟩,
         ⟨(some 2), none, .id, [.slot 29], none⟩])
       (.ret))))))
def F_hedgerowlaw01_ValueParses : IFun := ⟨30, [.slot 2], b_hedgerowlaw01_ValueParses, 8, 0⟩
theorem c_hedgerowlaw01_ValueParses : cFun Tryd.prog [1048579, 1048581, 2097161] 0 f_hedgerowlaw01_ValueParses = some F_hedgerowlaw01_ValueParses := by kernel_rfl

def b_hedgerowlaw01_ValueOrders : ICode :=
 .seq
  (.region [
    ⟨(some 3), none, .boxL, [.slot 0], none⟩,
    ⟨(some 4), none, .boxL, [.slot 1], none⟩,
    ⟨(some 5), none, .boxL, [.slot 2], none⟩,
    ⟨(some 6), none, .id, [.val (.bool false)], none⟩])
  (.seq
   (.seq
    (.region [
      ⟨(some 10), none, .call f_hedgerowlaw01_fixed, [], none⟩,
      ⟨(some 11), none, .un .not, [.slot 10], none⟩])
    (.cond (.slot 11)
     (.seq
      (.region [
        ⟨(some 6), none, .id, [.val (.bool false)], none⟩])
      (.ret))
     (.skip)))
   (.seq
    (.seq
     (.region [
       ⟨(some 12), none, .faddr 2, [.slot 3], none⟩,
       ⟨(some 13), none, .load 1 false, [.slot 12], none⟩,
       ⟨(some 14), none, .lenstr, [.slot 13], none⟩,
       ⟨(some 15), none, .faddr 2, [.slot 4], none⟩,
       ⟨(some 16), none, .load 1 false, [.slot 15], none⟩,
       ⟨(some 17), none, .lenstr, [.slot 16], none⟩,
       ⟨(some 18), none, .bin .add, [.slot 14, .slot 17], none⟩,
       ⟨(some 19), none, .faddr 2, [.slot 5], none⟩,
       ⟨(some 20), none, .load 1 false, [.slot 19], none⟩,
       ⟨(some 21), none, .lenstr, [.slot 20], none⟩,
       ⟨(some 22), none, .bin .add, [.slot 18, .slot 21], none⟩,
       ⟨(some 23), none, .bin .gtr, [.slot 22, .val (.int .i64 600)], none⟩])
     (.cond (.slot 23)
      (.seq
       (.region [
         ⟨(some 6), none, .id, [.val (.bool true)], none⟩])
       (.ret))
      (.skip)))
    (.seq
     (.region [
       ⟨(some 24), none, .load 3 true, [.slot 3], (some (.loc 3))⟩,
       ⟨(some 25), none, .load 3 true, [.slot 4], (some (.loc 4))⟩,
       ⟨(some 26), none, .call f_value_Compare, [.slot 24, .slot 25], none⟩,
       ⟨(some 27), none, .load 3 true, [.slot 4], (some (.loc 4))⟩,
       ⟨(some 28), none, .load 3 true, [.slot 5], (some (.loc 5))⟩,
       ⟨(some 29), none, .call f_value_Compare, [.slot 27, .slot 28], none⟩,
       ⟨(some 30), none, .load 3 true, [.slot 3], (some (.loc 3))⟩,
       ⟨(some 31), none, .load 3 true, [.slot 5], (some (.loc 5))⟩,
       ⟨(some 32), none, .call f_value_Compare, [.slot 30, .slot 31], none⟩,
       ⟨(some 7), none, .id, [.slot 26], none⟩,
       ⟨(some 8), none, .id, [.slot 29], none⟩,
       ⟨(some 9), none, .id, [.slot 32], none⟩])
     (.seq
      (.seq
       (.region [
         ⟨(some 33), none, .id, [.slot 7], none⟩,
         ⟨(some 34), none, .load 3 true, [.slot 3], none⟩,
         ⟨(some 35), none, .load 3 true, [.slot 4], none⟩,
         ⟨(some 36), none, .call f_hedgerowref01_Compare, [.slot 34, .slot 35], none⟩,
         ⟨(some 37), none, .bin .neq, [.slot 33, .slot 36], none⟩,
         ⟨(some 38), none, .id, [.slot 37], none⟩,
         ⟨(some 39), (some (38, false)), .id, [.slot 7], none⟩,
         ⟨(some 40), (some (38, false)), .load 3 true, [.slot 4], none⟩,
         ⟨(some 41), (some (38, false)), .load 3 true, [.slot 3], none⟩,
         ⟨(some 42), (some (38, false)), .call f_value_Compare, [.slot 40, .slot 41], none⟩,
         ⟨(some 43), (some (38, false)), .un .neg, [.slot 42], none⟩,
         ⟨(some 44), (some (38, false)), .bin .neq, [.slot 39, .slot 43], none⟩,
         ⟨(some 45), none, .pick, [.slot 38, .val (.bool true), .slot 44], none⟩,
         ⟨(some 46), none, .id, [.slot 45], none⟩,
         ⟨(some 47), (some (46, false)), .id, [.slot 7], none⟩,
         ⟨(some 48), (some (46, false)), .bin .eql, [.slot 47, .val (.int .i64 0)], none⟩,
         ⟨(some 49), (some (46, false)), .load 3 true, [.slot 3], none⟩,
         ⟨(some 50), (some (46, false)), .load 3 true, [.slot 4], none⟩,
         ⟨(some 51), (some (46, false)), .eqv false [(.int .i64), (.int .i64), .str], [.slot 49, .slot 50], none⟩,
         ⟨(some 52), (some (46, false)), .eq1 true .bool, [.slot 48, .slot 51], none⟩,
         ⟨(some 53), none, .pick, [.slot 46, .val (.bool true), .slot 52], none⟩])
       (.cond (.slot 53)
        (.seq
         (.region [
           ⟨(some 6), none, .id, [.val (.bool false)], none⟩])
         (.ret))
        (.skip)))
      (.seq
       (.region [
         ⟨(some 54), none, .id, [.slot 7], none⟩,
         ⟨(some 55), none, .bin .gtr, [.slot 54, .val (.int .i64 0)], none⟩,
         ⟨(some 56), none, .id, [.slot 55], none⟩,
         ⟨(some 57), (some (56, false)), .id, [.slot 8], none⟩,
         ⟨(some 58), (some (56, false)), .bin .gtr, [.slot 57, .val (.int .i64 0)], none⟩,
         ⟨(some 59), none, .pick, [.slot 56, .val (.bool true), .slot 58], none⟩,
         ⟨(some 60), none, .id, [.slot 59], none⟩,
         ⟨(some 61), (some (60, false)), .id, [.slot 9], none⟩,
         ⟨(some 62), (some (60, false)), .bin .leq, [.slot 61, .val (.int .i64 0)], none⟩,
         ⟨(some 63), none, .pick, [.slot 60, .val (.bool true), .slot 62], none⟩,
         ⟨(some 6), none, .id, [.slot 63], none⟩])
       (.ret))))))
def F_hedgerowlaw01_ValueOrders : IFun := ⟨64, [.slot 6], b_hedgerowlaw01_ValueOrders, 8, 0⟩
theorem c_hedgerowlaw01_ValueOrders : cFun Tryd.prog [1048579, 1048580, 1048581, 2097161] 0 f_hedgerowlaw01_ValueOrders = some F_hedgerowlaw01_ValueOrders := by kernel_rfl

def b_hedgerowlaw01_fixed : ICode :=
 .seq
  (.region [
    ⟨(some 0), none, .id, [.val (.bool false)], none⟩])
  (.seq
   (.region [
     ⟨(some 10), none, .build [(.int .i64 0), (.int .i64 0), (.str ⟨#[]⟩)] [(0, 1), (2, 1)], [.val (.int .i64 3), .val (.str ⟨#[105, 116, 39, 115]⟩)], none⟩,
     ⟨(some 1), none, .allocL [(.int .i64 0), (.int .i64 0), (.str ⟨#[]⟩)], [], none⟩,
     ⟨none, none, .store 3, [.slot 1, .slot 10], none⟩])
   (.seq
    (.region [
      ⟨(some 12), none, .call f_value_Parse, [.val (.str ⟨#[45, 55]⟩)], none⟩,
      ⟨(some 11), none, .id, [.slot 12], none⟩,
      ⟨(some 13), none, .extract 0, [.slot 11], none⟩,
      ⟨(some 14), none, .extract 1, [.slot 11], none⟩,
      ⟨(some 2), none, .allocL [(.int .i64 0), (.int .i64 0), (.str ⟨#[]⟩)], [], none⟩,
      ⟨none, none, .store 3, [.slot 2, .slot 13], none⟩,
      ⟨(some 3), none, .id, [.slot 14], none⟩])
    (.seq
     (.region [
       ⟨(some 16), none, .call f_value_Parse, [.val (.str ⟨#[91, 97, 62, 75, 62, 98, 93]⟩)], none⟩,
       ⟨(some 15), none, .id, [.slot 16], none⟩,
       ⟨(some 17), none, .extract 0, [.slot 15], none⟩,
       ⟨(some 18), none, .extract 1, [.slot 15], none⟩,
       ⟨(some 4), none, .allocL [(.int .i64 0), (.int .i64 0), (.str ⟨#[]⟩)], [], none⟩,
       ⟨none, none, .store 3, [.slot 4, .slot 17], none⟩,
       ⟨(some 5), none, .id, [.slot 18], none⟩])
     (.seq
      (.region [
        ⟨(some 20), none, .load 3 true, [.slot 4], none⟩,
        ⟨(some 21), none, .call f_value_Link, [.slot 20], none⟩,
        ⟨(some 19), none, .id, [.slot 21], none⟩,
        ⟨(some 22), none, .extract 0, [.slot 19], none⟩,
        ⟨(some 23), none, .extract 1, [.slot 19], none⟩,
        ⟨(some 6), none, .allocL [(.str ⟨#[]⟩), (.str ⟨#[]⟩), (.str ⟨#[]⟩)], [], none⟩,
        ⟨none, none, .store 3, [.slot 6, .slot 22], none⟩,
        ⟨(some 7), none, .id, [.slot 23], none⟩])
      (.seq
       (.region [
         ⟨(some 25), none, .call f_value_Parse, [.val (.str ⟨#[48, 55]⟩)], none⟩,
         ⟨(some 24), none, .id, [.slot 25], none⟩,
         ⟨(some 26), none, .extract 0, [.slot 24], none⟩,
         ⟨(some 27), none, .extract 1, [.slot 24], none⟩,
         ⟨(some 8), none, .allocL [(.int .i64 0), (.int .i64 0), (.str ⟨#[]⟩)], [], none⟩,
         ⟨none, none, .store 3, [.slot 8, .slot 26], none⟩,
         ⟨(some 9), none, .id, [.slot 27], none⟩])
       (.seq
        (.region [
          ⟨(some 28), none, .load 3 true, [.slot 1], (some (.loc 1))⟩,
          ⟨(some 29), none, .call f_value_String, [.slot 28], none⟩,
          ⟨(some 30), none, .bin .eql, [.slot 29, .val (.str ⟨#[39, 105, 116, 92, 39, 115, 39]⟩)], none⟩,
          ⟨(some 31), none, .id, [.slot 30], none⟩,
          ⟨(some 32), (some (31, true)), .id, [.slot 3], none⟩,
          ⟨(some 33), none, .pick, [.slot 31, .slot 32, .val (.bool false)], none⟩,
          ⟨(some 34), none, .id, [.slot 33], none⟩,
          ⟨(some 35), (some (34, true)), .load 3 true, [.slot 2], (some (.loc 2))⟩,
          ⟨(some 36), (some (34, true)), .build [(.int .i64 0), (.int .i64 0), (.str ⟨#[]⟩)] [(0, 1), (1, 1)], [.val (.int .i64 2), .val (.int .i64 (-7))], none⟩,
          ⟨(some 37), (some (34, true)), .eqv false [(.int .i64), (.int .i64), .str], [.slot 35, .slot 36], none⟩,
          ⟨(some 38), none, .pick, [.slot 34, .slot 37, .val (.bool false)], none⟩,
          ⟨(some 39), none, .id, [.slot 38], none⟩,
          ⟨(some 40), (some (39, true)), .id, [.slot 5], none⟩,
          ⟨(some 41), none, .pick, [.slot 39, .slot 40, .val (.bool false)], none⟩,
          ⟨(some 42), none, .id, [.slot 41], none⟩,
          ⟨(some 43), (some (42, true)), .id, [.slot 7], none⟩,
          ⟨(some 44), none, .pick, [.slot 42, .slot 43, .val (.bool false)], none⟩,
          ⟨(some 45), none, .id, [.slot 44], none⟩,
          ⟨(some 46), (some (45, true)), .load 3 true, [.slot 6], (some (.loc 6))⟩,
          ⟨(some 47), (some (45, true)), .build [(.str ⟨#[]⟩), (.str ⟨#[]⟩), (.str ⟨#[]⟩)] [(0, 1), (1, 1), (2, 1)], [.val (.str ⟨#[97]⟩), .val (.str ⟨#[98]⟩), .val (.str ⟨#[75]⟩)], none⟩,
          ⟨(some 48), (some (45, true)), .eqv false [.str, .str, .str], [.slot 46, .slot 47], none⟩,
          ⟨(some 49), none, .pick, [.slot 45, .slot 48, .val (.bool false)], none⟩,
          ⟨(some 50), none, .id, [.slot 49], none⟩,
          ⟨(some 51), (some (50, true)), .id, [.slot 9], none⟩,
          ⟨(some 52), (some (50, true)), .un .not, [.slot 51], none⟩,
          ⟨(some 53), none, .pick, [.slot 50, .slot 52, .val (.bool false)], none⟩,
          ⟨(some 54), none, .id, [.slot 53], none⟩,
          ⟨(some 55), (some (54, true)), .load 3 true, [.slot 2], (some (.loc 2))⟩,
          ⟨(some 56), (some (54, true)), .load 3 true, [.slot 4], (some (.loc 4))⟩,
          ⟨(some 57), (some (54, true)), .call f_value_Compare, [.slot 55, .slot 56], none⟩,
          ⟨(some 58), (some (54, true)), .bin .eql, [.slot 57, .val (.int .i64 (-1))], none⟩,
          ⟨(some 59), none, .pick, [.slot 54, .slot 58, .val (.bool false)], none⟩,
          ⟨(some 60), none, .id, [.slot 59], none⟩,
          ⟨(some 61), (some (60, true)), .call f_value_Name, [.val (.str ⟨#[97, 95, 49]⟩)], none⟩,
          ⟨(some 62), none, .pick, [.slot 60, .slot 61, .val (.bool false)], none⟩,
          ⟨(some 63), none, .id, [.slot 62], none⟩,
          ⟨(some 64), (some (63, true)), .call f_value_Name, [.val (.str ⟨#[49, 97]⟩)], none⟩,
          ⟨(some 65), (some (63, true)), .un .not, [.slot 64], none⟩,
          ⟨(some 66), none, .pick, [.slot 63, .slot 65, .val (.bool false)], none⟩,
          ⟨(some 67), none, .id, [.slot 66], none⟩,
          ⟨(some 68), (some (67, true)), .build [(.int .i64 0), (.str ⟨#[]⟩), (.str ⟨#[]⟩), (.str ⟨#[]⟩), (.str ⟨#[]⟩)] [(0, 1), (1, 1)], [.val (.int .i64 1), .val (.str ⟨#[97]⟩)], none⟩,
          ⟨(some 69), (some (67, true)), .call f_value_Elem, [.slot 68], none⟩,
          ⟨(some 70), none, .pick, [.slot 67, .slot 69, .val (.bool false)], none⟩,
          ⟨(some 71), none, .id, [.slot 70], none⟩,
          ⟨(some 72), (some (71, true)), .load 3 true, [.slot 6], (some (.loc 6))⟩,
          ⟨(some 73), (some (71, true)), .call f_value_OfLink, [.slot 72], none⟩,
          ⟨(some 74), (some (71, true)), .load 3 true, [.slot 4], (some (.loc 4))⟩,
          ⟨(some 75), (some (71, true)), .eqv false [(.int .i64), (.int .i64), .str], [.slot 73, .slot 74], none⟩,
          ⟨(some 76), none, .pick, [.slot 71, .slot 75, .val (.bool false)], none⟩,
          ⟨(some 0), none, .id, [.slot 76], none⟩])
        (.ret)))))))
def F_hedgerowlaw01_fixed : IFun := ⟨77, [.slot 0], b_hedgerowlaw01_fixed, 8, 2⟩
theorem c_hedgerowlaw01_fixed : cFun Tryd.prog [1048577, 1048578, 1048580, 1048582, 1048584] 2 f_hedgerowlaw01_fixed = some F_hedgerowlaw01_fixed := by kernel_rfl

def b_value_String : ICode :=
 .seq
  (.region [
    ⟨(some 1), none, .boxL, [.slot 0], none⟩,
    ⟨(some 2), none, .id, [.val (.str ⟨#[]⟩)], none⟩])
  (.seq
   (.seq
    (.region [
      ⟨(some 3), none, .load 3 true, [.slot 1], none⟩,
      ⟨(some 4), none, .call f_value_Right, [.slot 3], none⟩,
      ⟨(some 5), none, .un .not, [.slot 4], none⟩])
    (.cond (.slot 5)
     (.seq
      (.region [
        ⟨(some 2), none, .id, [.val (.str ⟨#[]⟩)], none⟩])
      (.ret))
     (.skip)))
   (.seq
    (.seq
     (.region [
       ⟨(some 6), none, .faddr 0, [.slot 1], none⟩,
       ⟨(some 7), none, .load 1 false, [.slot 6], none⟩])
     (.block 0
      (.seq
       (.region [
         ⟨(some 9), none, .bin .eql, [.slot 7, .val (.int .i64 0)], none⟩,
         ⟨(some 8), none, .id, [.slot 9], none⟩])
       (.cond (.slot 8)
        (.seq
         (.region [
           ⟨(some 2), none, .id, [.val (.str ⟨#[110, 117, 108, 108]⟩)], none⟩])
         (.ret))
        (.seq
         (.region [
           ⟨(some 11), none, .bin .eql, [.slot 7, .val (.int .i64 1)], none⟩,
           ⟨(some 10), none, .id, [.slot 11], none⟩])
         (.cond (.slot 10)
          (.seq
           (.region [
             ⟨(some 12), none, .faddr 1, [.slot 1], none⟩,
             ⟨(some 13), none, .load 1 false, [.slot 12], none⟩,
             ⟨(some 14), none, .bin .eql, [.slot 13, .val (.int .i64 1)], none⟩,
             ⟨(some 15), none, .call f_strconv_FormatBool, [.slot 14], none⟩,
             ⟨(some 2), none, .id, [.slot 15], none⟩])
           (.ret))
          (.seq
           (.region [
             ⟨(some 17), none, .bin .eql, [.slot 7, .val (.int .i64 2)], none⟩,
             ⟨(some 16), none, .id, [.slot 17], none⟩])
           (.cond (.slot 16)
            (.seq
             (.region [
               ⟨(some 18), none, .faddr 1, [.slot 1], none⟩,
               ⟨(some 19), none, .load 1 false, [.slot 18], none⟩,
               ⟨(some 20), none, .call f_strconv_Itoa, [.slot 19], none⟩,
               ⟨(some 2), none, .id, [.slot 20], none⟩])
             (.ret))
            (.seq
             (.region [
               ⟨(some 22), none, .bin .eql, [.slot 7, .val (.int .i64 3)], none⟩,
               ⟨(some 21), none, .id, [.slot 22], none⟩])
             (.cond (.slot 21)
              (.seq
               (.region [
                 ⟨(some 23), none, .faddr 2, [.slot 1], none⟩,
                 ⟨(some 24), none, .load 1 false, [.slot 23], none⟩,
                 ⟨(some 25), none, .call f_value_quoted, [.slot 24], none⟩,
                 ⟨(some 2), none, .id, [.slot 25], none⟩])
               (.ret))
              (.seq
               (.region [
                 ⟨(some 27), none, .bin .eql, [.slot 7, .val (.int .i64 4)], none⟩,
                 ⟨(some 26), none, .id, [.slot 27], none⟩])
               (.cond (.slot 26)
                (.seq
                 (.region [
                   ⟨(some 28), none, .faddr 2, [.slot 1], none⟩,
                   ⟨(some 29), none, .load 1 false, [.slot 28], none⟩,
                   ⟨(some 30), none, .bin .add, [.val (.str ⟨#[40]⟩), .slot 29], none⟩,
                   ⟨(some 31), none, .bin .add, [.slot 30, .val (.str ⟨#[41]⟩)], none⟩,
                   ⟨(some 2), none, .id, [.slot 31], none⟩])
                 (.ret))
                (.skip)))))))))))))
    (.seq
     (.region [
       ⟨(some 32), none, .faddr 2, [.slot 1], none⟩,
       ⟨(some 33), none, .load 1 false, [.slot 32], none⟩,
       ⟨(some 34), none, .bin .add, [.val (.str ⟨#[91]⟩), .slot 33], none⟩,
       ⟨(some 35), none, .bin .add, [.slot 34, .val (.str ⟨#[93]⟩)], none⟩,
       ⟨(some 2), none, .id, [.slot 35], none⟩])
     (.ret))))
def F_value_String : IFun := ⟨36, [.slot 2], b_value_String, 8, 0⟩
theorem c_value_String : cFun Tryd.prog [1048577, 2097194, 2097195] 0 f_value_String = some F_value_String := by kernel_rfl

def L0_hedgerowref01_Text : ICode :=
 .seq
  (.seq
   (.region [
     ⟨(some 34), none, .id, [.slot 4], none⟩,
     ⟨(some 35), none, .faddr 2, [.slot 1], none⟩,
     ⟨(some 36), none, .load 1 false, [.slot 35], none⟩,
     ⟨(some 37), none, .lenstr, [.slot 36], none⟩,
     ⟨(some 38), none, .bin .lss, [.slot 34, .slot 37], none⟩])
   (.cond (.slot 38)
    (.skip)
    (.exit 1)))
  (.seq
   (.block 2
    (.seq
     (.seq
      (.region [
        ⟨(some 41), none, .faddr 2, [.slot 1], none⟩,
        ⟨(some 42), none, .load 1 false, [.slot 41], none⟩,
        ⟨(some 43), none, .id, [.slot 4], none⟩,
        ⟨(some 44), none, .ixstr, [.slot 42, .slot 43], none⟩,
        ⟨(some 45), none, .bin .eql, [.slot 44, .val (.int .u8 39)], none⟩,
        ⟨(some 46), none, .id, [.slot 45], none⟩,
        ⟨(some 47), (some (46, false)), .faddr 2, [.slot 1], none⟩,
        ⟨(some 48), (some (46, false)), .load 1 false, [.slot 47], none⟩,
        ⟨(some 49), (some (46, false)), .id, [.slot 4], none⟩,
        ⟨(some 50), (some (46, false)), .ixstr, [.slot 48, .slot 49], none⟩,
        ⟨(some 51), (some (46, false)), .bin .eql, [.slot 50, .val (.int .u8 92)], none⟩,
        ⟨(some 52), none, .pick, [.slot 46, .val (.bool true), .slot 51], none⟩])
      (.cond (.slot 52)
       (.region [
         ⟨(some 53), none, .id, [.slot 3], none⟩,
         ⟨(some 54), none, .buildSl 1 1 (.int .u8 0) [0], [.val (.int .u8 92)], none⟩,
         ⟨(some 55), none, .b2s, [.slot 54], none⟩,
         ⟨(some 56), none, .bin .add, [.slot 53, .slot 55], none⟩,
         ⟨(some 3), none, .id, [.slot 56], none⟩])
       (.skip)))
     (.region [
       ⟨(some 57), none, .id, [.slot 3], none⟩,
       ⟨(some 58), none, .faddr 2, [.slot 1], none⟩,
       ⟨(some 59), none, .load 1 false, [.slot 58], none⟩,
       ⟨(some 60), none, .id, [.slot 4], none⟩,
       ⟨(some 61), none, .id, [.slot 4], none⟩,
       ⟨(some 62), none, .bin .add, [.slot 61, .val (.int .i64 1)], none⟩,
       ⟨(some 63), none, .slstr true true, [.slot 59, .slot 60, .slot 62], none⟩,
       ⟨(some 64), none, .bin .add, [.slot 57, .slot 63], none⟩,
       ⟨(some 3), none, .id, [.slot 64], none⟩])))
   (.region [
     ⟨(some 39), none, .id, [.slot 4], none⟩,
     ⟨(some 40), none, .bin .add, [.slot 39, .val (.int .i64 1)], none⟩,
     ⟨(some 4), none, .id, [.slot 40], none⟩]))
def b_hedgerowref01_Text : ICode :=
 .seq
  (.region [
    ⟨(some 1), none, .boxL, [.slot 0], none⟩,
    ⟨(some 2), none, .id, [.val (.str ⟨#[]⟩)], none⟩])
  (.seq
   (.seq
    (.region [
      ⟨(some 5), none, .load 3 true, [.slot 1], none⟩,
      ⟨(some 6), none, .call f_hedgerowref01_Right, [.slot 5], none⟩,
      ⟨(some 7), none, .un .not, [.slot 6], none⟩])
    (.cond (.slot 7)
     (.seq
      (.region [
        ⟨(some 2), none, .id, [.val (.str ⟨#[]⟩)], none⟩])
      (.ret))
     (.skip)))
   (.seq
    (.seq
     (.region [
       ⟨(some 8), none, .faddr 0, [.slot 1], none⟩,
       ⟨(some 9), none, .load 1 false, [.slot 8], none⟩])
     (.block 0
      (.seq
       (.region [
         ⟨(some 11), none, .bin .eql, [.slot 9, .val (.int .i64 0)], none⟩,
         ⟨(some 10), none, .id, [.slot 11], none⟩])
       (.cond (.slot 10)
        (.seq
         (.region [
           ⟨(some 2), none, .id, [.val (.str ⟨#[110, 117, 108, 108]⟩)], none⟩])
         (.ret))
        (.seq
         (.region [
           ⟨(some 13), none, .bin .eql, [.slot 9, .val (.int .i64 1)], none⟩,
           ⟨(some 12), none, .id, [.slot 13], none⟩])
         (.cond (.slot 12)
          (.seq
           (.seq
            (.region [
              ⟨(some 14), none, .faddr 1, [.slot 1], none⟩,
              ⟨(some 15), none, .load 1 false, [.slot 14], none⟩,
              ⟨(some 16), none, .bin .eql, [.slot 15, .val (.int .i64 1)], none⟩])
            (.cond (.slot 16)
             (.seq
              (.region [
                ⟨(some 2), none, .id, [.val (.str ⟨#[116, 114, 117, 101]⟩)], none⟩])
              (.ret))
             (.skip)))
           (.seq
            (.region [
              ⟨(some 2), none, .id, [.val (.str ⟨#[102, 97, 108, 115, 101]⟩)], none⟩])
            (.ret)))
          (.seq
           (.region [
             ⟨(some 18), none, .bin .eql, [.slot 9, .val (.int .i64 2)], none⟩,
             ⟨(some 17), none, .id, [.slot 18], none⟩])
           (.cond (.slot 17)
            (.seq
             (.region [
               ⟨(some 19), none, .faddr 1, [.slot 1], none⟩,
               ⟨(some 20), none, .load 1 false, [.slot 19], none⟩,
               ⟨(some 21), none, .call f_hedgerowref01_Digits, [.slot 20], none⟩,
               ⟨(some 2), none, .id, [.slot 21], none⟩])
             (.ret))
            (.seq
             (.region [
               ⟨(some 23), none, .bin .eql, [.slot 9, .val (.int .i64 4)], none⟩,
               ⟨(some 22), none, .id, [.slot 23], none⟩])
             (.cond (.slot 22)
              (.seq
               (.region [
                 ⟨(some 24), none, .faddr 2, [.slot 1], none⟩,
                 ⟨(some 25), none, .load 1 false, [.slot 24], none⟩,
                 ⟨(some 26), none, .bin .add, [.val (.str ⟨#[40]⟩), .slot 25], none⟩,
                 ⟨(some 27), none, .bin .add, [.slot 26, .val (.str ⟨#[41]⟩)], none⟩,
                 ⟨(some 2), none, .id, [.slot 27], none⟩])
               (.ret))
              (.seq
               (.region [
                 ⟨(some 29), none, .bin .eql, [.slot 9, .val (.int .i64 5)], none⟩,
                 ⟨(some 28), none, .id, [.slot 29], none⟩])
               (.cond (.slot 28)
                (.seq
                 (.region [
                   ⟨(some 30), none, .faddr 2, [.slot 1], none⟩,
                   ⟨(some 31), none, .load 1 false, [.slot 30], none⟩,
                   ⟨(some 32), none, .bin .add, [.val (.str ⟨#[91]⟩), .slot 31], none⟩,
                   ⟨(some 33), none, .bin .add, [.slot 32, .val (.str ⟨#[93]⟩)], none⟩,
                   ⟨(some 2), none, .id, [.slot 33], none⟩])
                 (.ret))
                (.skip)))))))))))))
    (.seq
     (.region [
       ⟨(some 3), none, .id, [.val (.str ⟨#[39]⟩)], none⟩])
     (.seq
      (.seq
       (.region [
         ⟨(some 4), none, .id, [.val (.int .i64 0)], none⟩])
       (.block 1
        (.loop L0_hedgerowref01_Text)))
      (.seq
       (.region [
         ⟨(some 65), none, .id, [.slot 3], none⟩,
         ⟨(some 66), none, .bin .add, [.slot 65, .val (.str ⟨#[39]⟩)], none⟩,
         ⟨(some 2), none, .id, [.slot 66], none⟩])
       (.ret))))))
def F_hedgerowref01_Text : IFun := ⟨67, [.slot 2], b_hedgerowref01_Text, 8, 0⟩
theorem c_hedgerowref01_Text : cFun Tryd.prog [1048577] 0 f_hedgerowref01_Text = some F_hedgerowref01_Text := by kernel_rfl

def b_value_Parse : ICode :=
 .seq
  (.region [
    ⟨(some 2), none, .allocL [(.int .i64 0), (.int .i64 0), (.str ⟨#[]⟩)], [], none⟩,
    ⟨(some 3), none, .id, [.val (.bool false)], none⟩])
  (.seq
   (.region [
     ⟨(some 5), none, .id, [.slot 0], none⟩,
     ⟨(some 6), none, .call f_value_guess, [.slot 5], none⟩,
     ⟨(some 4), none, .allocL [(.int .i64 0), (.int .i64 0), (.str ⟨#[]⟩)], [], none⟩,
     ⟨none, none, .store 3, [.slot 4, .slot 6], none⟩])
   (.seq
    (.seq
     (.region [
       ⟨(some 7), none, .id, [.slot 0], none⟩,
       ⟨(some 8), none, .bin .eql, [.slot 7, .val (.str ⟨#[]⟩)], none⟩,
       ⟨(some 9), none, .id, [.slot 8], none⟩,
       ⟨(some 10), (some (9, false)), .load 3 true, [.slot 4], none⟩,
       ⟨(some 11), (some (9, false)), .call f_value_String, [.slot 10], none⟩,
       ⟨(some 12), (some (9, false)), .id, [.slot 0], none⟩,
       ⟨(some 13), (some (9, false)), .bin .neq, [.slot 11, .slot 12], none⟩,
       ⟨(some 14), none, .pick, [.slot 9, .val (.bool true), .slot 13], none⟩])
     (.cond (.slot 14)
      (.seq
       (.region [
         ⟨(some 15), none, .build [(.int .i64 0), (.int .i64 0), (.str ⟨#[]⟩)] [], [], none⟩,
         ⟨none, none, .store 3, [.slot 2, .slot 15], none⟩,
         ⟨(some 3), none, .id, [.val (.bool false)], none⟩])
       (.ret))
      (.skip)))
    (.seq
     (.region [
       ⟨(some 16), none, .load 3 true, [.slot 4], none⟩,
       ⟨none, none, .store 3, [.slot 2, .slot 16], none⟩,
       ⟨(some 3), none, .id, [.val (.bool true)], none⟩])
     (.ret))))
def F_value_Parse : IFun := ⟨17, [.cell 2 3 true, .slot 3], b_value_Parse, 8, 0⟩
theorem c_value_Parse : cFun Tryd.prog [1048578, 1048580] 0 f_value_Parse = some F_value_Parse := by kernel_rfl

def b_hedgerowref01_Right : ICode :=
 .seq
  (.region [
    ⟨(some 1), none, .boxL, [.slot 0], none⟩,
    ⟨(some 2), none, .id, [.val (.bool false)], none⟩])
  (.seq
   (.seq
    (.region [
      ⟨(some 5), none, .faddr 0, [.slot 1], none⟩,
      ⟨(some 6), none, .load 1 false, [.slot 5], none⟩])
    (.block 0
     (.seq
      (.region [
        ⟨(some 8), none, .bin .eql, [.slot 6, .val (.int .i64 0)], none⟩,
        ⟨(some 7), none, .id, [.slot 8], none⟩])
      (.cond (.slot 7)
       (.seq
        (.region [
          ⟨(some 9), none, .faddr 1, [.slot 1], none⟩,
          ⟨(some 10), none, .load 1 false, [.slot 9], none⟩,
          ⟨(some 11), none, .bin .eql, [.slot 10, .val (.int .i64 0)], none⟩,
          ⟨(some 12), none, .id, [.slot 11], none⟩,
          ⟨(some 13), (some (12, true)), .faddr 2, [.slot 1], none⟩,
          ⟨(some 14), (some (12, true)), .load 1 false, [.slot 13], none⟩,
          ⟨(some 15), (some (12, true)), .bin .eql, [.slot 14, .val (.str ⟨#[]⟩)], none⟩,
          ⟨(some 16), none, .pick, [.slot 12, .slot 15, .val (.bool false)], none⟩,
          ⟨(some 2), none, .id, [.slot 16], none⟩])
        (.ret))
       (.seq
        (.region [
          ⟨(some 18), none, .bin .eql, [.slot 6, .val (.int .i64 1)], none⟩,
          ⟨(some 17), none, .id, [.slot 18], none⟩])
        (.cond (.slot 17)
         (.seq
          (.region [
            ⟨(some 19), none, .faddr 1, [.slot 1], none⟩,
            ⟨(some 20), none, .load 1 false, [.slot 19], none⟩,
            ⟨(some 21), none, .bin .eql, [.slot 20, .val (.int .i64 0)], none⟩,
            ⟨(some 22), none, .id, [.slot 21], none⟩,
            ⟨(some 23), (some (22, false)), .faddr 1, [.slot 1], none⟩,
            ⟨(some 24), (some (22, false)), .load 1 false, [.slot 23], none⟩,
            ⟨(some 25), (some (22, false)), .bin .eql, [.slot 24, .val (.int .i64 1)], none⟩,
            ⟨(some 26), none, .pick, [.slot 22, .val (.bool true), .slot 25], none⟩,
            ⟨(some 27), none, .id, [.slot 26], none⟩,
            ⟨(some 28), (some (27, true)), .faddr 2, [.slot 1], none⟩,
            ⟨(some 29), (some (27, true)), .load 1 false, [.slot 28], none⟩,
            ⟨(some 30), (some (27, true)), .bin .eql, [.slot 29, .val (.str ⟨#[]⟩)], none⟩,
            ⟨(some 31), none, .pick, [.slot 27, .slot 30, .val (.bool false)], none⟩,
            ⟨(some 2), none, .id, [.slot 31], none⟩])
          (.ret))
         (.seq
          (.region [
            ⟨(some 33), none, .bin .eql, [.slot 6, .val (.int .i64 2)], none⟩,
            ⟨(some 32), none, .id, [.slot 33], none⟩])
          (.cond (.slot 32)
           (.seq
            (.region [
              ⟨(some 34), none, .faddr 1, [.slot 1], none⟩,
              ⟨(some 35), none, .load 1 false, [.slot 34], none⟩,
              ⟨(some 36), none, .bin .geq, [.slot 35, .val (.int .i64 (-1099511627776))], none⟩,
              ⟨(some 37), none, .id, [.slot 36], none⟩,
              ⟨(some 38), (some (37, true)), .faddr 1, [.slot 1], none⟩,
              ⟨(some 39), (some (37, true)), .load 1 false, [.slot 38], none⟩,
              ⟨(some 40), (some (37, true)), .bin .leq, [.slot 39, .val (.int .i64 1099511627776)], none⟩,
              ⟨(some 41), none, .pick, [.slot 37, .slot 40, .val (.bool false)], none⟩,
              ⟨(some 42), none, .id, [.slot 41], none⟩,
              ⟨(some 43), (some (42, true)), .faddr 2, [.slot 1], none⟩,
              ⟨(some 44), (some (42, true)), .load 1 false, [.slot 43], none⟩,
              ⟨(some 45), (some (42, true)), .bin .eql, [.slot 44, .val (.str ⟨#[]⟩)], none⟩,
              ⟨(some 46), none, .pick, [.slot 42, .slot 45, .val (.bool false)], none⟩,
              ⟨(some 2), none, .id, [.slot 46], none⟩])
            (.ret))
           (.seq
            (.region [
              ⟨(some 48), none, .bin .eql, [.slot 6, .val (.int .i64 3)], none⟩,
              ⟨(some 47), none, .id, [.slot 48], none⟩])
            (.cond (.slot 47)
             (.seq
              (.region [
                ⟨(some 49), none, .faddr 1, [.slot 1], none⟩,
                ⟨(some 50), none, .load 1 false, [.slot 49], none⟩,
                ⟨(some 51), none, .bin .eql, [.slot 50, .val (.int .i64 0)], none⟩,
                ⟨(some 52), none, .id, [.slot 51], none⟩,
                ⟨(some 53), (some (52, true)), .faddr 2, [.slot 1], none⟩,
                ⟨(some 54), (some (52, true)), .load 1 false, [.slot 53], none⟩,
                ⟨(some 55), (some (52, true)), .call f_hedgerowref01_plain, [.slot 54], none⟩,
                ⟨(some 56), none, .pick, [.slot 52, .slot 55, .val (.bool false)], none⟩,
                ⟨(some 2), none, .id, [.slot 56], none⟩])
              (.ret))
             (.seq
              (.region [
                ⟨(some 58), none, .bin .eql, [.slot 6, .val (.int .i64 4)], none⟩,
                ⟨(some 57), none, .id, [.slot 58], none⟩])
              (.cond (.slot 57)
               (.seq
                (.region [
                  ⟨(some 59), none, .faddr 1, [.slot 1], none⟩,
                  ⟨(some 60), none, .load 1 false, [.slot 59], none⟩,
                  ⟨(some 61), none, .bin .eql, [.slot 60, .val (.int .i64 0)], none⟩,
                  ⟨(some 62), none, .id, [.slot 61], none⟩,
                  ⟨(some 63), (some (62, true)), .faddr 2, [.slot 1], none⟩,
                  ⟨(some 64), (some (62, true)), .load 1 false, [.slot 63], none⟩,
                  ⟨(some 65), (some (62, true)), .call f_hedgerowref01_Name, [.slot 64], none⟩,
                  ⟨(some 66), none, .pick, [.slot 62, .slot 65, .val (.bool false)], none⟩,
                  ⟨(some 2), none, .id, [.slot 66], none⟩])
                (.ret))
               (.seq
                (.region [
                  ⟨(some 68), none, .bin .eql, [.slot 6, .val (.int .i64 5)], none⟩,
                  ⟨(some 67), none, .id, [.slot 68], none⟩])
                (.cond (.slot 67)
                 (.seq
                  (.region [
                    ⟨(some 70), none, .faddr 2, [.slot 1], none⟩,
                    ⟨(some 71), none, .load 1 false, [.slot 70], none⟩,
                    ⟨(some 72), none, .call f_hedgerowref01_Link, [.slot 71], none⟩,
                    ⟨(some 69), none, .id, [.slot 72], none⟩,
                    ⟨(some 73), none, .extract 0, [.slot 69], none⟩,
                    ⟨(some 74), none, .extract 1, [.slot 69], none⟩,
                    ⟨(some 3), none, .allocL [(.str ⟨#[]⟩), (.str ⟨#[]⟩), (.str ⟨#[]⟩)], [], none⟩,
                    ⟨none, none, .store 3, [.slot 3, .slot 73], none⟩,
                    ⟨(some 4), none, .id, [.slot 74], none⟩])
                  (.seq
                   (.region [
                     ⟨(some 75), none, .faddr 1, [.slot 1], none⟩,
                     ⟨(some 76), none, .load 1 false, [.slot 75], none⟩,
                     ⟨(some 77), none, .bin .eql, [.slot 76, .val (.int .i64 0)], none⟩,
                     ⟨(some 78), none, .id, [.slot 77], none⟩,
                     ⟨(some 79), (some (78, true)), .id, [.slot 4], none⟩,
                     ⟨(some 80), none, .pick, [.slot 78, .slot 79, .val (.bool false)], none⟩,
                     ⟨(some 2), none, .id, [.slot 80], none⟩])
                   (.ret)))
                 (.skip)))))))))))))))
   (.seq
    (.region [
      ⟨(some 2), none, .id, [.val (.bool false)], none⟩])
    (.ret)))
def F_hedgerowref01_Right : IFun := ⟨81, [.slot 2], b_hedgerowref01_Right, 8, 0⟩
theorem c_hedgerowref01_Right : cFun Tryd.prog [1048577, 1048579, 2097200] 0 f_hedgerowref01_Right = some F_hedgerowref01_Right := by kernel_rfl

def L0_hedgerowref01_Parse : ICode :=
 .seq
  (.seq
   (.region [
     ⟨(some 25), none, .id, [.slot 6], none⟩,
     ⟨(some 26), none, .id, [.slot 4], none⟩,
     ⟨(some 27), none, .lenstr, [.slot 26], none⟩,
     ⟨(some 28), none, .bin .lss, [.slot 25, .slot 27], none⟩])
   (.cond (.slot 28)
    (.skip)
    (.exit 0)))
  (.seq
   (.block 1
    (.seq
     (.seq
      (.region [
        ⟨(some 31), none, .id, [.slot 4], none⟩,
        ⟨(some 32), none, .id, [.slot 6], none⟩,
        ⟨(some 33), none, .ixstr, [.slot 31, .slot 32], none⟩,
        ⟨(some 34), none, .bin .eql, [.slot 33, .val (.int .u8 92)], none⟩,
        ⟨(some 35), none, .id, [.slot 34], none⟩,
        ⟨(some 36), (some (35, true)), .id, [.slot 6], none⟩,
        ⟨(some 37), (some (35, true)), .bin .add, [.slot 36, .val (.int .i64 1)], none⟩,
        ⟨(some 38), (some (35, true)), .id, [.slot 4], none⟩,
        ⟨(some 39), (some (35, true)), .lenstr, [.slot 38], none⟩,
        ⟨(some 40), (some (35, true)), .bin .lss, [.slot 37, .slot 39], none⟩,
        ⟨(some 41), none, .pick, [.slot 35, .slot 40, .val (.bool false)], none⟩])
      (.cond (.slot 41)
       (.region [
         ⟨(some 42), none, .id, [.slot 6], none⟩,
         ⟨(some 43), none, .bin .add, [.slot 42, .val (.int .i64 1)], none⟩,
         ⟨(some 6), none, .id, [.slot 43], none⟩])
       (.skip)))
     (.region [
       ⟨(some 44), none, .id, [.slot 5], none⟩,
       ⟨(some 45), none, .id, [.slot 4], none⟩,
       ⟨(some 46), none, .id, [.slot 6], none⟩,
       ⟨(some 47), none, .id, [.slot 6], none⟩,
       ⟨(some 48), none, .bin .add, [.slot 47, .val (.int .i64 1)], none⟩,
       ⟨(some 49), none, .slstr true true, [.slot 45, .slot 46, .slot 48], none⟩,
       ⟨(some 50), none, .bin .add, [.slot 44, .slot 49], none⟩,
       ⟨(some 5), none, .id, [.slot 50], none⟩])))
   (.region [
     ⟨(some 29), none, .id, [.slot 6], none⟩,
     ⟨(some 30), none, .bin .add, [.slot 29, .val (.int .i64 1)], none⟩,
     ⟨(some 6), none, .id, [.slot 30], none⟩]))
def L1_hedgerowref01_Parse : ICode :=
 .seq
  (.region [
    ⟨(some 66), none, .bin .lss, [.slot 65, .slot 64], none⟩])
  (.seq
   (.cond (.slot 66)
    (.skip)
    (.exit 2))
   (.seq
    (.block 3
     (.seq
      (.region [
        ⟨(some 67), none, .ixaddr 3, [.slot 63, .slot 65], none⟩,
        ⟨(some 68), none, .load 3 true, [.slot 67], none⟩,
        ⟨(some 8), none, .allocL [(.int .i64 0), (.int .i64 0), (.str ⟨#[]⟩)], [], none⟩,
        ⟨none, none, .store 3, [.slot 8, .slot 68], none⟩])
      (.seq
       (.region [
         ⟨(some 69), none, .load 3 true, [.slot 8], none⟩,
         ⟨(some 70), none, .call f_hedgerowref01_Right, [.slot 69], none⟩,
         ⟨(some 71), none, .id, [.slot 70], none⟩,
         ⟨(some 72), (some (71, true)), .load 3 true, [.slot 8], none⟩,
         ⟨(some 73), (some (71, true)), .call f_hedgerowref01_Text, [.slot 72], none⟩,
         ⟨(some 74), (some (71, true)), .id, [.slot 0], none⟩,
         ⟨(some 75), (some (71, true)), .bin .eql, [.slot 73, .slot 74], none⟩,
         ⟨(some 76), none, .pick, [.slot 71, .slot 75, .val (.bool false)], none⟩])
       (.cond (.slot 76)
        (.seq
         (.region [
           ⟨(some 77), none, .load 3 true, [.slot 8], none⟩,
           ⟨none, none, .store 3, [.slot 2, .slot 77], none⟩,
           ⟨(some 3), none, .id, [.val (.bool true)], none⟩])
         (.ret))
        (.skip)))))
    (.region [
      ⟨(some 78), none, .bin .add, [.slot 65, .val (.int .i64 1)], none⟩,
      ⟨(some 65), none, .id, [.slot 78], none⟩])))
def b_hedgerowref01_Parse : ICode :=
 .seq
  (.region [
    ⟨(some 2), none, .allocL [(.int .i64 0), (.int .i64 0), (.str ⟨#[]⟩)], [], none⟩,
    ⟨(some 3), none, .id, [.val (.bool false)], none⟩])
  (.seq
   (.seq
    (.region [
      ⟨(some 9), none, .id, [.slot 0], none⟩,
      ⟨(some 10), none, .bin .eql, [.slot 9, .val (.str ⟨#[]⟩)], none⟩,
      ⟨(some 11), none, .id, [.slot 10], none⟩,
      ⟨(some 12), (some (11, false)), .id, [.slot 0], none⟩,
      ⟨(some 13), (some (11, false)), .lenstr, [.slot 12], none⟩,
      ⟨(some 14), (some (11, false)), .bin .gtr, [.slot 13, .val (.int .i64 200)], none⟩,
      ⟨(some 15), none, .pick, [.slot 11, .val (.bool true), .slot 14], none⟩])
    (.cond (.slot 15)
     (.seq
      (.region [
        ⟨(some 16), none, .build [(.int .i64 0), (.int .i64 0), (.str ⟨#[]⟩)] [], [], none⟩,
        ⟨none, none, .store 3, [.slot 2, .slot 16], none⟩,
        ⟨(some 3), none, .id, [.val (.bool false)], none⟩])
      (.ret))
     (.skip)))
   (.seq
    (.region [
      ⟨(some 4), none, .id, [.val (.str ⟨#[]⟩)], none⟩])
    (.seq
     (.seq
      (.region [
        ⟨(some 17), none, .id, [.slot 0], none⟩,
        ⟨(some 18), none, .lenstr, [.slot 17], none⟩,
        ⟨(some 19), none, .bin .gtr, [.slot 18, .val (.int .i64 1)], none⟩])
      (.cond (.slot 19)
       (.region [
         ⟨(some 20), none, .id, [.slot 0], none⟩,
         ⟨(some 21), none, .id, [.slot 0], none⟩,
         ⟨(some 22), none, .lenstr, [.slot 21], none⟩,
         ⟨(some 23), none, .bin .sub, [.slot 22, .val (.int .i64 1)], none⟩,
         ⟨(some 24), none, .slstr true true, [.slot 20, .val (.int .i64 1), .slot 23], none⟩,
         ⟨(some 4), none, .id, [.slot 24], none⟩])
       (.skip)))
     (.seq
      (.region [
        ⟨(some 5), none, .id, [.val (.str ⟨#[]⟩)], none⟩])
      (.seq
       (.seq
        (.region [
          ⟨(some 6), none, .id, [.val (.int .i64 0)], none⟩])
        (.block 0
         (.loop L0_hedgerowref01_Parse)))
       (.seq
        (.seq
         (.region [
           ⟨(some 51), none, .build [(.int .i64 0), (.int .i64 0), (.str ⟨#[]⟩)] [], [], none⟩,
           ⟨(some 52), none, .build [(.int .i64 0), (.int .i64 0), (.str ⟨#[]⟩)] [(0, 1)], [.val (.int .i64 1)], none⟩,
           ⟨(some 53), none, .build [(.int .i64 0), (.int .i64 0), (.str ⟨#[]⟩)] [(0, 1), (1, 1)], [.val (.int .i64 1), .val (.int .i64 1)], none⟩,
           ⟨(some 54), none, .id, [.slot 0], none⟩,
           ⟨(some 55), none, .call f_hedgerowref01_number, [.slot 54], none⟩,
           ⟨(some 56), none, .build [(.int .i64 0), (.int .i64 0), (.str ⟨#[]⟩)] [(0, 1), (1, 1)], [.val (.int .i64 2), .slot 55], none⟩,
           ⟨(some 57), none, .id, [.slot 5], none⟩,
           ⟨(some 58), none, .build [(.int .i64 0), (.int .i64 0), (.str ⟨#[]⟩)] [(0, 1), (2, 1)], [.val (.int .i64 3), .slot 57], none⟩,
           ⟨(some 59), none, .id, [.slot 4], none⟩,
           ⟨(some 60), none, .build [(.int .i64 0), (.int .i64 0), (.str ⟨#[]⟩)] [(0, 1), (2, 1)], [.val (.int .i64 4), .slot 59], none⟩,
           ⟨(some 61), none, .id, [.slot 4], none⟩,
           ⟨(some 62), none, .build [(.int .i64 0), (.int .i64 0), (.str ⟨#[]⟩)] [(0, 1), (2, 1)], [.val (.int .i64 5), .slot 61], none⟩,
           ⟨(some 63), none, .buildSl 3 7 (.agg [(.int .i64 0), (.int .i64 0), (.str ⟨#[]⟩)]) [0, 1, 2, 3, 4, 5, 6], [.slot 51, .slot 52, .slot 53, .slot 56, .slot 58, .slot 60, .slot 62], none⟩,
           ⟨(some 64), none, .lensl, [.slot 63], none⟩,
           ⟨(some 65), none, .id, [.val (.int .i64 0)], none⟩])
         (.block 2
          (.loop L1_hedgerowref01_Parse)))
        (.seq
         (.region [
           ⟨(some 79), none, .build [(.int .i64 0), (.int .i64 0), (.str ⟨#[]⟩)] [], [], none⟩,
           ⟨none, none, .store 3, [.slot 2, .slot 79], none⟩,
           ⟨(some 3), none, .id, [.val (.bool false)], none⟩])
         (.ret))))))))
def F_hedgerowref01_Parse : IFun := ⟨80, [.cell 2 3 true, .slot 3], b_hedgerowref01_Parse, 8, 0⟩
theorem c_hedgerowref01_Parse : cFun Tryd.prog [1048578, 1048584] 0 f_hedgerowref01_Parse = some F_hedgerowref01_Parse := by kernel_rfl

def b_value_Compare : ICode :=
 .seq
  (.region [
    ⟨(some 2), none, .boxL, [.slot 0], none⟩,
    ⟨(some 3), none, .boxL, [.slot 1], none⟩,
    ⟨(some 4), none, .id, [.val (.int .i64 0)], none⟩])
  (.seq
   (.region [
     ⟨(some 5), none, .faddr 0, [.slot 2], none⟩,
     ⟨(some 6), none, .load 1 false, [.slot 5], (some (.loc 2))⟩,
     ⟨(some 7), none, .faddr 0, [.slot 3], none⟩,
     ⟨(some 8), none, .load 1 false, [.slot 7], (some (.loc 3))⟩,
     ⟨(some 9), none, .call f_cmp_Compareint, [.slot 6, .slot 8], none⟩,
     ⟨(some 10), none, .faddr 1, [.slot 2], none⟩,
     ⟨(some 11), none, .load 1 false, [.slot 10], (some (.loc 2))⟩,
     ⟨(some 12), none, .faddr 1, [.slot 3], none⟩,
     ⟨(some 13), none, .load 1 false, [.slot 12], (some (.loc 3))⟩,
     ⟨(some 14), none, .call f_cmp_Compareint, [.slot 11, .slot 13], none⟩,
     ⟨(some 15), none, .faddr 2, [.slot 2], none⟩,
     ⟨(some 16), none, .load 1 false, [.slot 15], (some (.loc 2))⟩,
     ⟨(some 17), none, .faddr 2, [.slot 3], none⟩,
     ⟨(some 18), none, .load 1 false, [.slot 17], (some (.loc 3))⟩,
     ⟨(some 19), none, .call f_cmp_Comparestring, [.slot 16, .slot 18], none⟩,
     ⟨(some 20), none, .buildSl 1 3 (.int .i64 0) [0, 1, 2], [.slot 9, .slot 14, .slot 19], none⟩,
     ⟨(some 21), none, .call f_cmp_Orint, [.slot 20], none⟩,
     ⟨(some 4), none, .id, [.slot 21], none⟩])
   (.ret))
def F_value_Compare : IFun := ⟨22, [.slot 4], b_value_Compare, 8, 0⟩
theorem c_value_Compare : cFun Tryd.prog [1048578, 1048579] 0 f_value_Compare = some F_value_Compare := by kernel_rfl

def L0_hedgerowref01_Compare : ICode :=
 .seq
  (.seq
   (.region [
     ⟨(some 26), none, .id, [.slot 5], none⟩,
     ⟨(some 27), none, .faddr 2, [.slot 2], none⟩,
     ⟨(some 28), none, .load 1 false, [.slot 27], none⟩,
     ⟨(some 29), none, .lenstr, [.slot 28], none⟩,
     ⟨(some 30), none, .bin .lss, [.slot 26, .slot 29], none⟩,
     ⟨(some 31), none, .id, [.slot 30], none⟩,
     ⟨(some 32), (some (31, true)), .id, [.slot 5], none⟩,
     ⟨(some 33), (some (31, true)), .faddr 2, [.slot 3], none⟩,
     ⟨(some 34), (some (31, true)), .load 1 false, [.slot 33], none⟩,
     ⟨(some 35), (some (31, true)), .lenstr, [.slot 34], none⟩,
     ⟨(some 36), (some (31, true)), .bin .lss, [.slot 32, .slot 35], none⟩,
     ⟨(some 37), none, .pick, [.slot 31, .slot 36, .val (.bool false)], none⟩])
   (.cond (.slot 37)
    (.skip)
    (.exit 0)))
  (.seq
   (.block 1
    (.seq
     (.region [
       ⟨(some 40), none, .faddr 2, [.slot 2], none⟩,
       ⟨(some 41), none, .load 1 false, [.slot 40], (some (.loc 2))⟩,
       ⟨(some 42), none, .id, [.slot 5], none⟩,
       ⟨(some 43), none, .ixstr, [.slot 41, .slot 42], none⟩,
       ⟨(some 44), none, .faddr 2, [.slot 3], none⟩,
       ⟨(some 45), none, .load 1 false, [.slot 44], (some (.loc 3))⟩,
       ⟨(some 46), none, .id, [.slot 5], none⟩,
       ⟨(some 47), none, .ixstr, [.slot 45, .slot 46], none⟩,
       ⟨(some 48), none, .bin .neq, [.slot 43, .slot 47], none⟩])
     (.cond (.slot 48)
      (.seq
       (.seq
        (.region [
          ⟨(some 49), none, .faddr 2, [.slot 2], none⟩,
          ⟨(some 50), none, .load 1 false, [.slot 49], (some (.loc 2))⟩,
          ⟨(some 51), none, .id, [.slot 5], none⟩,
          ⟨(some 52), none, .ixstr, [.slot 50, .slot 51], none⟩,
          ⟨(some 53), none, .faddr 2, [.slot 3], none⟩,
          ⟨(some 54), none, .load 1 false, [.slot 53], (some (.loc 3))⟩,
          ⟨(some 55), none, .id, [.slot 5], none⟩,
          ⟨(some 56), none, .ixstr, [.slot 54, .slot 55], none⟩,
          ⟨(some 57), none, .bin .lss, [.slot 52, .slot 56], none⟩])
        (.cond (.slot 57)
         (.seq
          (.region [
            ⟨(some 4), none, .id, [.val (.int .i64 (-1))], none⟩])
          (.ret))
         (.skip)))
       (.seq
        (.region [
          ⟨(some 4), none, .id, [.val (.int .i64 1)], none⟩])
        (.ret)))
      (.skip))))
   (.region [
     ⟨(some 38), none, .id, [.slot 5], none⟩,
     ⟨(some 39), none, .bin .add, [.slot 38, .val (.int .i64 1)], none⟩,
     ⟨(some 5), none, .id, [.slot 39], none⟩]))
def b_hedgerowref01_Compare : ICode :=
 .seq
  (.region [
    ⟨(some 2), none, .boxL, [.slot 0], none⟩,
    ⟨(some 3), none, .boxL, [.slot 1], none⟩,
    ⟨(some 4), none, .id, [.val (.int .i64 0)], none⟩])
  (.seq
   (.seq
    (.region [
      ⟨(some 6), none, .faddr 0, [.slot 2], none⟩,
      ⟨(some 7), none, .load 1 false, [.slot 6], none⟩,
      ⟨(some 8), none, .faddr 0, [.slot 3], none⟩,
      ⟨(some 9), none, .load 1 false, [.slot 8], none⟩,
      ⟨(some 10), none, .bin .neq, [.slot 7, .slot 9], none⟩])
    (.cond (.slot 10)
     (.seq
      (.seq
       (.region [
         ⟨(some 11), none, .faddr 0, [.slot 2], none⟩,
         ⟨(some 12), none, .load 1 false, [.slot 11], none⟩,
         ⟨(some 13), none, .faddr 0, [.slot 3], none⟩,
         ⟨(some 14), none, .load 1 false, [.slot 13], none⟩,
         ⟨(some 15), none, .bin .lss, [.slot 12, .slot 14], none⟩])
       (.cond (.slot 15)
        (.seq
         (.region [
           ⟨(some 4), none, .id, [.val (.int .i64 (-1))], none⟩])
         (.ret))
        (.skip)))
      (.seq
       (.region [
         ⟨(some 4), none, .id, [.val (.int .i64 1)], none⟩])
       (.ret)))
     (.skip)))
   (.seq
    (.seq
     (.region [
       ⟨(some 16), none, .faddr 1, [.slot 2], none⟩,
       ⟨(some 17), none, .load 1 false, [.slot 16], none⟩,
       ⟨(some 18), none, .faddr 1, [.slot 3], none⟩,
       ⟨(some 19), none, .load 1 false, [.slot 18], none⟩,
       ⟨(some 20), none, .bin .neq, [.slot 17, .slot 19], none⟩])
     (.cond (.slot 20)
      (.seq
       (.seq
        (.region [
          ⟨(some 21), none, .faddr 1, [.slot 2], none⟩,
          ⟨(some 22), none, .load 1 false, [.slot 21], none⟩,
          ⟨(some 23), none, .faddr 1, [.slot 3], none⟩,
          ⟨(some 24), none, .load 1 false, [.slot 23], none⟩,
          ⟨(some 25), none, .bin .lss, [.slot 22, .slot 24], none⟩])
        (.cond (.slot 25)
         (.seq
          (.region [
            ⟨(some 4), none, .id, [.val (.int .i64 (-1))], none⟩])
          (.ret))
         (.skip)))
       (.seq
        (.region [
          ⟨(some 4), none, .id, [.val (.int .i64 1)], none⟩])
        (.ret)))
      (.skip)))
    (.seq
     (.seq
      (.region [
        ⟨(some 5), none, .id, [.val (.int .i64 0)], none⟩])
      (.block 0
       (.loop L0_hedgerowref01_Compare)))
     (.seq
      (.seq
       (.region [
         ⟨(some 58), none, .faddr 2, [.slot 2], none⟩,
         ⟨(some 59), none, .load 1 false, [.slot 58], none⟩,
         ⟨(some 60), none, .lenstr, [.slot 59], none⟩,
         ⟨(some 61), none, .faddr 2, [.slot 3], none⟩,
         ⟨(some 62), none, .load 1 false, [.slot 61], none⟩,
         ⟨(some 63), none, .lenstr, [.slot 62], none⟩,
         ⟨(some 64), none, .bin .lss, [.slot 60, .slot 63], none⟩])
       (.cond (.slot 64)
        (.seq
         (.region [
           ⟨(some 4), none, .id, [.val (.int .i64 (-1))], none⟩])
         (.ret))
        (.skip)))
      (.seq
       (.seq
        (.region [
          ⟨(some 65), none, .faddr 2, [.slot 2], none⟩,
          ⟨(some 66), none, .load 1 false, [.slot 65], none⟩,
          ⟨(some 67), none, .lenstr, [.slot 66], none⟩,
          ⟨(some 68), none, .faddr 2, [.slot 3], none⟩,
          ⟨(some 69), none, .load 1 false, [.slot 68], none⟩,
          ⟨(some 70), none, .lenstr, [.slot 69], none⟩,
          ⟨(some 71), none, .bin .gtr, [.slot 67, .slot 70], none⟩])
        (.cond (.slot 71)
         (.seq
          (.region [
            ⟨(some 4), none, .id, [.val (.int .i64 1)], none⟩])
          (.ret))
         (.skip)))
       (.seq
        (.region [
          ⟨(some 4), none, .id, [.val (.int .i64 0)], none⟩])
        (.ret)))))))
def F_hedgerowref01_Compare : IFun := ⟨72, [.slot 4], b_hedgerowref01_Compare, 8, 0⟩
theorem c_hedgerowref01_Compare : cFun Tryd.prog [1048578, 1048579] 0 f_hedgerowref01_Compare = some F_hedgerowref01_Compare := by kernel_rfl

def b_value_Link : ICode :=
 .seq
  (.region [
    ⟨(some 1), none, .boxL, [.slot 0], none⟩,
    ⟨(some 2), none, .allocL [(.str ⟨#[]⟩), (.str ⟨#[]⟩), (.str ⟨#[]⟩)], [], none⟩,
    ⟨(some 3), none, .id, [.val (.bool false)], none⟩])
  (.seq
   (.region [
     ⟨(some 5), none, .faddr 2, [.slot 1], none⟩,
     ⟨(some 6), none, .load 1 false, [.slot 5], none⟩,
     ⟨(some 7), none, .call f_strings_Split, [.slot 6, .val (.str ⟨#[62]⟩)], none⟩,
     ⟨(some 4), none, .id, [.slot 7], none⟩])
   (.seq
    (.seq
     (.region [
       ⟨(some 8), none, .faddr 0, [.slot 1], none⟩,
       ⟨(some 9), none, .load 1 false, [.slot 8], none⟩,
       ⟨(some 10), none, .bin .neq, [.slot 9, .val (.int .i64 5)], none⟩,
       ⟨(some 11), none, .id, [.slot 10], none⟩,
       ⟨(some 12), (some (11, false)), .faddr 1, [.slot 1], none⟩,
       ⟨(some 13), (some (11, false)), .load 1 false, [.slot 12], none⟩,
       ⟨(some 14), (some (11, false)), .bin .neq, [.slot 13, .val (.int .i64 0)], none⟩,
       ⟨(some 15), none, .pick, [.slot 11, .val (.bool true), .slot 14], none⟩,
       ⟨(some 16), none, .id, [.slot 15], none⟩,
       ⟨(some 17), (some (16, false)), .id, [.slot 4], none⟩,
       ⟨(some 18), (some (16, false)), .lensl, [.slot 17], none⟩,
       ⟨(some 19), (some (16, false)), .bin .neq, [.slot 18, .val (.int .i64 3)], none⟩,
       ⟨(some 20), none, .pick, [.slot 16, .val (.bool true), .slot 19], none⟩,
       ⟨(some 21), none, .id, [.slot 20], none⟩,
       ⟨(some 22), (some (21, false)), .id, [.slot 4], none⟩,
       ⟨(some 23), (some (21, false)), .call f_value_names, [.slot 22], none⟩,
       ⟨(some 24), (some (21, false)), .un .not, [.slot 23], none⟩,
       ⟨(some 25), none, .pick, [.slot 21, .val (.bool true), .slot 24], none⟩])
     (.cond (.slot 25)
      (.seq
       (.region [
         ⟨(some 26), none, .build [(.str ⟨#[]⟩), (.str ⟨#[]⟩), (.str ⟨#[]⟩)] [], [], none⟩,
         ⟨none, none, .store 3, [.slot 2, .slot 26], none⟩,
         ⟨(some 3), none, .id, [.val (.bool false)], none⟩])
       (.ret))
      (.skip)))
    (.seq
     (.region [
       ⟨(some 27), none, .id, [.slot 4], none⟩,
       ⟨(some 28), none, .ixaddr 1, [.slot 27, .val (.int .i64 0)], none⟩,
       ⟨(some 29), none, .load 1 false, [.slot 28], (some (.el))⟩,
       ⟨(some 30), none, .id, [.slot 4], none⟩,
       ⟨(some 31), none, .ixaddr 1, [.slot 30, .val (.int .i64 1)], none⟩,
       ⟨(some 32), none, .load 1 false, [.slot 31], (some (.el))⟩,
       ⟨(some 33), none, .id, [.slot 4], none⟩,
       ⟨(some 34), none, .ixaddr 1, [.slot 33, .val (.int .i64 2)], none⟩,
       ⟨(some 35), none, .load 1 false, [.slot 34], (some (.el))⟩,
       ⟨(some 36), none, .build [(.str ⟨#[]⟩), (.str ⟨#[]⟩), (.str ⟨#[]⟩)] [(0, 1), (2, 1), (1, 1)], [.slot 29, .slot 32, .slot 35], none⟩,
       ⟨none, none, .store 3, [.slot 2, .slot 36], (some (.loc 2))⟩,
       ⟨(some 3), none, .id, [.val (.bool true)], none⟩])
     (.ret))))
def F_value_Link : IFun := ⟨37, [.cell 2 3 true, .slot 3], b_value_Link, 8, 0⟩
theorem c_value_Link : cFun Tryd.prog [1048577, 1048578, 2097234] 0 f_value_Link = some F_value_Link := by kernel_rfl

def L0_value_Name : ICode :=
 .seq
  (.region [
    ⟨(some 20), none, .bin .lss, [.slot 19, .slot 18], none⟩])
  (.seq
   (.cond (.slot 20)
    (.skip)
    (.exit 0))
   (.seq
    (.block 1
     (.seq
      (.region [
        ⟨(some 21), none, .id, [.slot 19], none⟩,
        ⟨(some 3), none, .id, [.slot 21], none⟩])
      (.seq
       (.region [
         ⟨(some 22), none, .id, [.slot 0], none⟩,
         ⟨(some 23), none, .id, [.slot 3], none⟩,
         ⟨(some 24), none, .ixstr, [.slot 22, .slot 23], none⟩,
         ⟨(some 25), none, .call f_value_inner, [.slot 24], none⟩,
         ⟨(some 26), none, .un .not, [.slot 25], none⟩])
       (.cond (.slot 26)
        (.seq
         (.region [
           ⟨(some 2), none, .id, [.val (.bool false)], none⟩])
         (.ret))
        (.skip)))))
    (.region [
      ⟨(some 27), none, .bin .add, [.slot 19, .val (.int .i64 1)], none⟩,
      ⟨(some 19), none, .id, [.slot 27], none⟩])))
def b_value_Name : ICode :=
 .seq
  (.region [
    ⟨(some 2), none, .id, [.val (.bool false)], none⟩])
  (.seq
   (.seq
    (.region [
      ⟨(some 4), none, .id, [.slot 0], none⟩,
      ⟨(some 5), none, .bin .eql, [.slot 4, .val (.str ⟨#[]⟩)], none⟩,
      ⟨(some 6), none, .id, [.slot 5], none⟩,
      ⟨(some 7), (some (6, false)), .id, [.slot 0], none⟩,
      ⟨(some 8), (some (6, false)), .lenstr, [.slot 7], none⟩,
      ⟨(some 9), (some (6, false)), .bin .gtr, [.slot 8, .val (.int .i64 16)], none⟩,
      ⟨(some 10), none, .pick, [.slot 6, .val (.bool true), .slot 9], none⟩,
      ⟨(some 11), none, .id, [.slot 10], none⟩,
      ⟨(some 12), (some (11, false)), .id, [.slot 0], none⟩,
      ⟨(some 13), (some (11, false)), .ixstr, [.slot 12, .val (.int .i64 0)], none⟩,
      ⟨(some 14), (some (11, false)), .call f_value_letter, [.slot 13], none⟩,
      ⟨(some 15), (some (11, false)), .un .not, [.slot 14], none⟩,
      ⟨(some 16), none, .pick, [.slot 11, .val (.bool true), .slot 15], none⟩])
    (.cond (.slot 16)
     (.seq
      (.region [
        ⟨(some 2), none, .id, [.val (.bool false)], none⟩])
      (.ret))
     (.skip)))
   (.seq
    (.seq
     (.region [
       ⟨(some 17), none, .id, [.slot 0], none⟩,
       ⟨(some 18), none, .lenstr, [.slot 17], none⟩,
       ⟨(some 19), none, .id, [.val (.int .i64 0)], none⟩])
     (.block 0
      (.loop L0_value_Name)))
    (.seq
     (.region [
       ⟨(some 2), none, .id, [.val (.bool true)], none⟩])
     (.ret))))
def F_value_Name : IFun := ⟨28, [.slot 2], b_value_Name, 8, 0⟩
theorem c_value_Name : cFun Tryd.prog [] 0 f_value_Name = some F_value_Name := by kernel_rfl

def b_value_Elem : ICode :=
 .seq
  (.region [
    ⟨(some 1), none, .boxL, [.slot 0], none⟩,
    ⟨(some 2), none, .id, [.val (.bool false)], none⟩])
  (.seq
   (.seq
    (.region [
      ⟨(some 3), none, .faddr 0, [.slot 1], none⟩,
      ⟨(some 4), none, .load 1 false, [.slot 3], none⟩])
    (.block 0
     (.seq
      (.region [
        ⟨(some 6), none, .bin .eql, [.slot 4, .val (.int .i64 1)], none⟩,
        ⟨(some 5), none, .id, [.slot 6], none⟩])
      (.cond (.slot 5)
       (.seq
        (.region [
          ⟨(some 7), none, .faddr 1, [.slot 1], none⟩,
          ⟨(some 8), none, .load 1 false, [.slot 7], none⟩,
          ⟨(some 9), none, .buildSl 1 1 (.str ⟨#[]⟩) [0], [.slot 8], none⟩,
          ⟨(some 10), none, .call f_value_names, [.slot 9], none⟩,
          ⟨(some 11), none, .id, [.slot 10], none⟩,
          ⟨(some 12), (some (11, true)), .faddr 2, [.slot 1], none⟩,
          ⟨(some 13), (some (11, true)), .load 1 false, [.slot 12], none⟩,
          ⟨(some 14), (some (11, true)), .faddr 3, [.slot 1], none⟩,
          ⟨(some 15), (some (11, true)), .load 1 false, [.slot 14], none⟩,
          ⟨(some 16), (some (11, true)), .faddr 4, [.slot 1], none⟩,
          ⟨(some 17), (some (11, true)), .load 1 false, [.slot 16], none⟩,
          ⟨(some 18), (some (11, true)), .buildSl 1 3 (.str ⟨#[]⟩) [0, 1, 2], [.slot 13, .slot 15, .slot 17], none⟩,
          ⟨(some 19), (some (11, true)), .call f_value_empty, [.slot 18], none⟩,
          ⟨(some 20), none, .pick, [.slot 11, .slot 19, .val (.bool false)], none⟩,
          ⟨(some 2), none, .id, [.slot 20], none⟩])
        (.ret))
       (.seq
        (.seq
         (.region [
           ⟨(some 22), none, .bin .eql, [.slot 4, .val (.int .i64 2)], none⟩,
           ⟨(some 21), none, .id, [.slot 22], none⟩])
         (.cond (.slot 21)
          (.skip)
          (.region [
            ⟨(some 23), none, .bin .eql, [.slot 4, .val (.int .i64 4)], none⟩,
            ⟨(some 21), none, .id, [.slot 23], none⟩])))
        (.cond (.slot 21)
         (.seq
          (.region [
            ⟨(some 24), none, .faddr 1, [.slot 1], none⟩,
            ⟨(some 25), none, .load 1 false, [.slot 24], none⟩,
            ⟨(some 26), none, .faddr 4, [.slot 1], none⟩,
            ⟨(some 27), none, .load 1 false, [.slot 26], none⟩,
            ⟨(some 28), none, .buildSl 1 2 (.str ⟨#[]⟩) [0, 1], [.slot 25, .slot 27], none⟩,
            ⟨(some 29), none, .call f_value_names, [.slot 28], none⟩,
            ⟨(some 30), none, .id, [.slot 29], none⟩,
            ⟨(some 31), (some (30, true)), .faddr 2, [.slot 1], none⟩,
            ⟨(some 32), (some (30, true)), .load 1 false, [.slot 31], none⟩,
            ⟨(some 33), (some (30, true)), .faddr 3, [.slot 1], none⟩,
            ⟨(some 34), (some (30, true)), .load 1 false, [.slot 33], none⟩,
            ⟨(some 35), (some (30, true)), .buildSl 1 2 (.str ⟨#[]⟩) [0, 1], [.slot 32, .slot 34], none⟩,
            ⟨(some 36), (some (30, true)), .call f_value_empty, [.slot 35], none⟩,
            ⟨(some 37), none, .pick, [.slot 30, .slot 36, .val (.bool false)], none⟩,
            ⟨(some 2), none, .id, [.slot 37], none⟩])
          (.ret))
         (.seq
          (.region [
            ⟨(some 39), none, .bin .eql, [.slot 4, .val (.int .i64 3)], none⟩,
            ⟨(some 38), none, .id, [.slot 39], none⟩])
          (.cond (.slot 38)
           (.seq
            (.region [
              ⟨(some 40), none, .faddr 1, [.slot 1], none⟩,
              ⟨(some 41), none, .load 1 false, [.slot 40], none⟩,
              ⟨(some 42), none, .faddr 2, [.slot 1], none⟩,
              ⟨(some 43), none, .load 1 false, [.slot 42], none⟩,
              ⟨(some 44), none, .faddr 3, [.slot 1], none⟩,
              ⟨(some 45), none, .load 1 false, [.slot 44], none⟩,
              ⟨(some 46), none, .buildSl 1 3 (.str ⟨#[]⟩) [0, 1, 2], [.slot 41, .slot 43, .slot 45], none⟩,
              ⟨(some 47), none, .call f_value_names, [.slot 46], none⟩,
              ⟨(some 48), none, .id, [.slot 47], none⟩,
              ⟨(some 49), (some (48, true)), .faddr 4, [.slot 1], none⟩,
              ⟨(some 50), (some (48, true)), .load 1 false, [.slot 49], none⟩,
              ⟨(some 51), (some (48, true)), .buildSl 1 1 (.str ⟨#[]⟩) [0], [.slot 50], none⟩,
              ⟨(some 52), (some (48, true)), .call f_value_empty, [.slot 51], none⟩,
              ⟨(some 53), none, .pick, [.slot 48, .slot 52, .val (.bool false)], none⟩,
              ⟨(some 2), none, .id, [.slot 53], none⟩])
            (.ret))
           (.seq
            (.region [
              ⟨(some 55), none, .bin .eql, [.slot 4, .val (.int .i64 5)], none⟩,
              ⟨(some 54), none, .id, [.slot 55], none⟩])
            (.cond (.slot 54)
             (.seq
              (.region [
                ⟨(some 56), none, .faddr 1, [.slot 1], none⟩,
                ⟨(some 57), none, .load 1 false, [.slot 56], none⟩,
                ⟨(some 58), none, .faddr 2, [.slot 1], none⟩,
                ⟨(some 59), none, .load 1 false, [.slot 58], none⟩,
                ⟨(some 60), none, .faddr 3, [.slot 1], none⟩,
                ⟨(some 61), none, .load 1 false, [.slot 60], none⟩,
                ⟨(some 62), none, .faddr 4, [.slot 1], none⟩,
                ⟨(some 63), none, .load 1 false, [.slot 62], none⟩,
                ⟨(some 64), none, .buildSl 1 4 (.str ⟨#[]⟩) [0, 1, 2, 3], [.slot 57, .slot 59, .slot 61, .slot 63], none⟩,
                ⟨(some 65), none, .call f_value_names, [.slot 64], none⟩,
                ⟨(some 2), none, .id, [.slot 65], none⟩])
              (.ret))
             (.skip)))))))))))
   (.seq
    (.region [
      ⟨(some 2), none, .id, [.val (.bool false)], none⟩])
    (.ret)))
def F_value_Elem : IFun := ⟨66, [.slot 2], b_value_Elem, 8, 0⟩
theorem c_value_Elem : cFun Tryd.prog [1048577] 0 f_value_Elem = some F_value_Elem := by kernel_rfl

def b_value_OfLink : ICode :=
 .seq
  (.region [
    ⟨(some 1), none, .boxL, [.slot 0], none⟩,
    ⟨(some 2), none, .allocL [(.int .i64 0), (.int .i64 0), (.str ⟨#[]⟩)], [], none⟩])
  (.seq
   (.region [
     ⟨(some 3), none, .faddr 0, [.slot 1], none⟩,
     ⟨(some 4), none, .load 1 false, [.slot 3], none⟩,
     ⟨(some 5), none, .bin .add, [.slot 4, .val (.str ⟨#[62]⟩)], none⟩,
     ⟨(some 6), none, .faddr 2, [.slot 1], none⟩,
     ⟨(some 7), none, .load 1 false, [.slot 6], none⟩,
     ⟨(some 8), none, .bin .add, [.slot 5, .slot 7], none⟩,
     ⟨(some 9), none, .bin .add, [.slot 8, .val (.str ⟨#[62]⟩)], none⟩,
     ⟨(some 10), none, .faddr 1, [.slot 1], none⟩,
     ⟨(some 11), none, .load 1 false, [.slot 10], none⟩,
     ⟨(some 12), none, .bin .add, [.slot 9, .slot 11], none⟩,
     ⟨(some 13), none, .build [(.int .i64 0), (.int .i64 0), (.str ⟨#[]⟩)] [(0, 1), (2, 1)], [.val (.int .i64 5), .slot 12], none⟩,
     ⟨none, none, .store 3, [.slot 2, .slot 13], none⟩])
   (.ret))
def F_value_OfLink : IFun := ⟨14, [.cell 2 3 true], b_value_OfLink, 8, 0⟩
theorem c_value_OfLink : cFun Tryd.prog [1048577, 1048578] 0 f_value_OfLink = some F_value_OfLink := by kernel_rfl

def b_value_Right : ICode :=
 .seq
  (.region [
    ⟨(some 1), none, .boxL, [.slot 0], none⟩,
    ⟨(some 2), none, .id, [.val (.bool false)], none⟩])
  (.seq
   (.seq
    (.region [
      ⟨(some 5), none, .faddr 0, [.slot 1], none⟩,
      ⟨(some 6), none, .load 1 false, [.slot 5], none⟩])
    (.block 0
     (.seq
      (.region [
        ⟨(some 8), none, .bin .eql, [.slot 6, .val (.int .i64 0)], none⟩,
        ⟨(some 7), none, .id, [.slot 8], none⟩])
      (.cond (.slot 7)
       (.seq
        (.region [
          ⟨(some 9), none, .faddr 1, [.slot 1], none⟩,
          ⟨(some 10), none, .load 1 false, [.slot 9], none⟩,
          ⟨(some 11), none, .bin .eql, [.slot 10, .val (.int .i64 0)], none⟩,
          ⟨(some 12), none, .id, [.slot 11], none⟩,
          ⟨(some 13), (some (12, true)), .faddr 2, [.slot 1], none⟩,
          ⟨(some 14), (some (12, true)), .load 1 false, [.slot 13], none⟩,
          ⟨(some 15), (some (12, true)), .bin .eql, [.slot 14, .val (.str ⟨#[]⟩)], none⟩,
          ⟨(some 16), none, .pick, [.slot 12, .slot 15, .val (.bool false)], none⟩,
          ⟨(some 2), none, .id, [.slot 16], none⟩])
        (.ret))
       (.seq
        (.region [
          ⟨(some 18), none, .bin .eql, [.slot 6, .val (.int .i64 1)], none⟩,
          ⟨(some 17), none, .id, [.slot 18], none⟩])
        (.cond (.slot 17)
         (.seq
          (.region [
            ⟨(some 19), none, .faddr 1, [.slot 1], none⟩,
            ⟨(some 20), none, .load 1 false, [.slot 19], none⟩,
            ⟨(some 21), none, .bin .andNot, [.slot 20, .val (.int .i64 1)], none⟩,
            ⟨(some 22), none, .bin .eql, [.slot 21, .val (.int .i64 0)], none⟩,
            ⟨(some 23), none, .id, [.slot 22], none⟩,
            ⟨(some 24), (some (23, true)), .faddr 2, [.slot 1], none⟩,
            ⟨(some 25), (some (23, true)), .load 1 false, [.slot 24], none⟩,
            ⟨(some 26), (some (23, true)), .bin .eql, [.slot 25, .val (.str ⟨#[]⟩)], none⟩,
            ⟨(some 27), none, .pick, [.slot 23, .slot 26, .val (.bool false)], none⟩,
            ⟨(some 2), none, .id, [.slot 27], none⟩])
          (.ret))
         (.seq
          (.region [
            ⟨(some 29), none, .bin .eql, [.slot 6, .val (.int .i64 2)], none⟩,
            ⟨(some 28), none, .id, [.slot 29], none⟩])
          (.cond (.slot 28)
           (.seq
            (.region [
              ⟨(some 30), none, .faddr 1, [.slot 1], none⟩,
              ⟨(some 31), none, .load 1 false, [.slot 30], none⟩,
              ⟨(some 32), none, .bin .geq, [.slot 31, .val (.int .i64 (-1099511627776))], none⟩,
              ⟨(some 33), none, .id, [.slot 32], none⟩,
              ⟨(some 34), (some (33, true)), .faddr 1, [.slot 1], none⟩,
              ⟨(some 35), (some (33, true)), .load 1 false, [.slot 34], none⟩,
              ⟨(some 36), (some (33, true)), .bin .leq, [.slot 35, .val (.int .i64 1099511627776)], none⟩,
              ⟨(some 37), none, .pick, [.slot 33, .slot 36, .val (.bool false)], none⟩,
              ⟨(some 38), none, .id, [.slot 37], none⟩,
              ⟨(some 39), (some (38, true)), .faddr 2, [.slot 1], none⟩,
              ⟨(some 40), (some (38, true)), .load 1 false, [.slot 39], none⟩,
              ⟨(some 41), (some (38, true)), .bin .eql, [.slot 40, .val (.str ⟨#[]⟩)], none⟩,
              ⟨(some 42), none, .pick, [.slot 38, .slot 41, .val (.bool false)], none⟩,
              ⟨(some 2), none, .id, [.slot 42], none⟩])
            (.ret))
           (.seq
            (.region [
              ⟨(some 44), none, .bin .eql, [.slot 6, .val (.int .i64 3)], none⟩,
              ⟨(some 43), none, .id, [.slot 44], none⟩])
            (.cond (.slot 43)
             (.seq
              (.region [
                ⟨(some 45), none, .faddr 1, [.slot 1], none⟩,
                ⟨(some 46), none, .load 1 false, [.slot 45], none⟩,
                ⟨(some 47), none, .bin .eql, [.slot 46, .val (.int .i64 0)], none⟩,
                ⟨(some 48), none, .id, [.slot 47], none⟩,
                ⟨(some 49), (some (48, true)), .faddr 2, [.slot 1], none⟩,
                ⟨(some 50), (some (48, true)), .load 1 false, [.slot 49], none⟩,
                ⟨(some 51), (some (48, true)), .call f_value_plain, [.slot 50], none⟩,
                ⟨(some 52), none, .pick, [.slot 48, .slot 51, .val (.bool false)], none⟩,
                ⟨(some 2), none, .id, [.slot 52], none⟩])
              (.ret))
             (.seq
              (.region [
                ⟨(some 54), none, .bin .eql, [.slot 6, .val (.int .i64 4)], none⟩,
                ⟨(some 53), none, .id, [.slot 54], none⟩])
              (.cond (.slot 53)
               (.seq
                (.region [
                  ⟨(some 55), none, .faddr 1, [.slot 1], none⟩,
                  ⟨(some 56), none, .load 1 false, [.slot 55], none⟩,
                  ⟨(some 57), none, .bin .eql, [.slot 56, .val (.int .i64 0)], none⟩,
                  ⟨(some 58), none, .id, [.slot 57], none⟩,
                  ⟨(some 59), (some (58, true)), .faddr 2, [.slot 1], none⟩,
                  ⟨(some 60), (some (58, true)), .load 1 false, [.slot 59], none⟩,
                  ⟨(some 61), (some (58, true)), .call f_value_Name, [.slot 60], none⟩,
                  ⟨(some 62), none, .pick, [.slot 58, .slot 61, .val (.bool false)], none⟩,
                  ⟨(some 2), none, .id, [.slot 62], none⟩])
                (.ret))
               (.skip)))))))))))))
   (.seq
    (.region [
      ⟨(some 64), none, .load 3 true, [.slot 1], none⟩,
      ⟨(some 65), none, .call f_value_Link, [.slot 64], none⟩,
      ⟨(some 63), none, .id, [.slot 65], none⟩,
      ⟨(some 66), none, .extract 0, [.slot 63], none⟩,
      ⟨(some 67), none, .extract 1, [.slot 63], none⟩,
      ⟨(some 3), none, .allocL [(.str ⟨#[]⟩), (.str ⟨#[]⟩), (.str ⟨#[]⟩)], [], none⟩,
      ⟨none, none, .store 3, [.slot 3, .slot 66], none⟩,
      ⟨(some 4), none, .id, [.slot 67], none⟩])
    (.seq
     (.region [
       ⟨(some 68), none, .id, [.slot 4], none⟩,
       ⟨(some 2), none, .id, [.slot 68], none⟩])
     (.ret))))
def F_value_Right : IFun := ⟨69, [.slot 2], b_value_Right, 8, 0⟩
theorem c_value_Right : cFun Tryd.prog [1048577, 1048579] 0 f_value_Right = some F_value_Right := by kernel_rfl

def b_strconv_FormatBool : ICode :=
 .seq
  (.region [
    ⟨(some 2), none, .id, [.val (.str ⟨#[]⟩)], none⟩])
  (.seq
   (.region [
     ⟨(some 3), none, .id, [.slot 0], none⟩,
     ⟨(some 4), none, .call f_strconv_FormatBool_88, [.slot 3], none⟩,
     ⟨(some 2), none, .id, [.slot 4], none⟩])
   (.ret))
def F_strconv_FormatBool : IFun := ⟨5, [.slot 2], b_strconv_FormatBool, 8, 0⟩
theorem c_strconv_FormatBool : cFun Tryd.prog [] 0 f_strconv_FormatBool = some F_strconv_FormatBool := by kernel_rfl

def F_strconv_Itoa : IFun := ⟨8, [], .trap, 0, 12⟩

def L0_value_quoted : ICode :=
 .seq
  (.region [
    ⟨(some 11), none, .bin .lss, [.slot 10, .slot 9], none⟩])
  (.seq
   (.cond (.slot 11)
    (.skip)
    (.exit 0))
   (.seq
    (.block 1
     (.seq
      (.region [
        ⟨(some 12), none, .ixaddr 1, [.slot 8, .slot 10], none⟩,
        ⟨(some 13), none, .load 1 false, [.slot 12], none⟩,
        ⟨(some 5), none, .id, [.slot 13], none⟩])
      (.seq
       (.seq
        (.region [
          ⟨(some 14), none, .id, [.slot 5], none⟩,
          ⟨(some 15), none, .bin .eql, [.slot 14, .val (.int .u8 39)], none⟩,
          ⟨(some 16), none, .id, [.slot 15], none⟩,
          ⟨(some 17), (some (16, false)), .id, [.slot 5], none⟩,
          ⟨(some 18), (some (16, false)), .bin .eql, [.slot 17, .val (.int .u8 92)], none⟩,
          ⟨(some 19), none, .pick, [.slot 16, .val (.bool true), .slot 18], none⟩])
        (.cond (.slot 19)
         (.region [
           ⟨(some 20), none, .call f_strings_Builder_WriteByte, [.slot 3, .val (.int .u8 92)], none⟩])
         (.skip)))
       (.region [
         ⟨(some 21), none, .id, [.slot 5], none⟩,
         ⟨(some 22), none, .call f_strings_Builder_WriteByte, [.slot 3, .slot 21], none⟩]))))
    (.region [
      ⟨(some 23), none, .bin .add, [.slot 10, .val (.int .i64 1)], none⟩,
      ⟨(some 10), none, .id, [.slot 23], none⟩])))
def b_value_quoted : ICode :=
 .seq
  (.region [
    ⟨(some 2), none, .id, [.val (.str ⟨#[]⟩)], none⟩])
  (.seq
   (.region [
     ⟨(some 3), none, .allocH 117 [.nilptr, .nilsl], [], none⟩])
   (.seq
    (.region [
      ⟨(some 6), none, .call f_strings_Builder_WriteByte, [.slot 3, .val (.int .u8 39)], none⟩])
    (.seq
     (.seq
      (.region [
        ⟨(some 7), none, .id, [.slot 0], none⟩,
        ⟨(some 8), none, .s2b, [.slot 7], none⟩,
        ⟨(some 9), none, .lensl, [.slot 8], none⟩,
        ⟨(some 10), none, .id, [.val (.int .i64 0)], none⟩])
      (.block 0
       (.loop L0_value_quoted)))
     (.seq
      (.region [
        ⟨(some 24), none, .call f_strings_Builder_WriteByte, [.slot 3, .val (.int .u8 39)], none⟩])
      (.seq
       (.region [
         ⟨(some 25), none, .call f_strings_Builder_String, [.slot 3], none⟩,
         ⟨(some 2), none, .id, [.slot 25], none⟩])
       (.ret))))))
def F_value_quoted : IFun := ⟨26, [.slot 2], b_value_quoted, 8, 1⟩
theorem c_value_quoted : cFun Tryd.prog [3, 2097225] 1 f_value_quoted = some F_value_quoted := by kernel_rfl

def b_hedgerowref01_Digits : ICode :=
 .seq
  (.region [
    ⟨(some 2), none, .id, [.val (.str ⟨#[]⟩)], none⟩])
  (.seq
   (.seq
    (.region [
      ⟨(some 3), none, .id, [.slot 0], none⟩,
      ⟨(some 4), none, .bin .lss, [.slot 3, .val (.int .i64 0)], none⟩,
      ⟨(some 5), none, .id, [.slot 4], none⟩,
      ⟨(some 6), (some (5, true)), .id, [.slot 0], none⟩,
      ⟨(some 7), (some (5, true)), .bin .gtr, [.slot 6, .val (.int .i64 (-10))], none⟩,
      ⟨(some 8), none, .pick, [.slot 5, .slot 7, .val (.bool false)], none⟩])
    (.cond (.slot 8)
     (.seq
      (.region [
        ⟨(some 9), none, .id, [.slot 0], none⟩,
        ⟨(some 10), none, .bin .sub, [.val (.int .i64 48), .slot 9], none⟩,
        ⟨(some 11), none, .conv .u8, [.slot 10], none⟩,
        ⟨(some 12), none, .buildSl 1 1 (.int .u8 0) [0], [.slot 11], none⟩,
        ⟨(some 13), none, .b2s, [.slot 12], none⟩,
        ⟨(some 14), none, .bin .add, [.val (.str ⟨#[45]⟩), .slot 13], none⟩,
        ⟨(some 2), none, .id, [.slot 14], none⟩])
      (.ret))
     (.skip)))
   (.seq
    (.seq
     (.region [
       ⟨(some 15), none, .id, [.slot 0], none⟩,
       ⟨(some 16), none, .bin .lss, [.slot 15, .val (.int .i64 0)], none⟩])
     (.cond (.slot 16)
      (.seq
       (.region [
         ⟨(some 17), none, .id, [.slot 0], none⟩,
         ⟨(some 18), none, .bin .quo, [.slot 17, .val (.int .i64 10)], none⟩,
         ⟨(some 19), none, .call f_hedgerowref01_Digits, [.slot 18], none⟩,
         ⟨(some 20), none, .id, [.slot 0], none⟩,
         ⟨(some 21), none, .bin .rem, [.slot 20, .val (.int .i64 10)], none⟩,
         ⟨(some 22), none, .bin .sub, [.val (.int .i64 48), .slot 21], none⟩,
         ⟨(some 23), none, .conv .u8, [.slot 22], none⟩,
         ⟨(some 24), none, .buildSl 1 1 (.int .u8 0) [0], [.slot 23], none⟩,
         ⟨(some 25), none, .b2s, [.slot 24], none⟩,
         ⟨(some 26), none, .bin .add, [.slot 19, .slot 25], none⟩,
         ⟨(some 2), none, .id, [.slot 26], none⟩])
       (.ret))
      (.skip)))
    (.seq
     (.seq
      (.region [
        ⟨(some 27), none, .id, [.slot 0], none⟩,
        ⟨(some 28), none, .bin .lss, [.slot 27, .val (.int .i64 10)], none⟩])
      (.cond (.slot 28)
       (.seq
        (.region [
          ⟨(some 29), none, .id, [.slot 0], none⟩,
          ⟨(some 30), none, .bin .add, [.val (.int .i64 48), .slot 29], none⟩,
          ⟨(some 31), none, .conv .u8, [.slot 30], none⟩,
          ⟨(some 32), none, .buildSl 1 1 (.int .u8 0) [0], [.slot 31], none⟩,
          ⟨(some 33), none, .b2s, [.slot 32], none⟩,
          ⟨(some 2), none, .id, [.slot 33], none⟩])
        (.ret))
       (.skip)))
     (.seq
      (.region [
        ⟨(some 34), none, .id, [.slot 0], none⟩,
        ⟨(some 35), none, .bin .quo, [.slot 34, .val (.int .i64 10)], none⟩,
        ⟨(some 36), none, .call f_hedgerowref01_Digits, [.slot 35], none⟩,
        ⟨(some 37), none, .id, [.slot 0], none⟩,
        ⟨(some 38), none, .bin .rem, [.slot 37, .val (.int .i64 10)], none⟩,
        ⟨(some 39), none, .bin .add, [.val (.int .i64 48), .slot 38], none⟩,
        ⟨(some 40), none, .conv .u8, [.slot 39], none⟩,
        ⟨(some 41), none, .buildSl 1 1 (.int .u8 0) [0], [.slot 40], none⟩,
        ⟨(some 42), none, .b2s, [.slot 41], none⟩,
        ⟨(some 43), none, .bin .add, [.slot 36, .slot 42], none⟩,
        ⟨(some 2), none, .id, [.slot 43], none⟩])
      (.ret)))))
def F_hedgerowref01_Digits : IFun := ⟨44, [.slot 2], b_hedgerowref01_Digits, 8, 0⟩
theorem c_hedgerowref01_Digits : cFun Tryd.prog [] 0 f_hedgerowref01_Digits = some F_hedgerowref01_Digits := by kernel_rfl

def b_value_guess : ICode :=
 .seq
  (.region [
    ⟨(some 2), none, .allocL [(.int .i64 0), (.int .i64 0), (.str ⟨#[]⟩)], [], none⟩])
  (.seq
   (.block 0
    (.seq
     (.region [
       ⟨(some 6), none, .id, [.slot 0], none⟩,
       ⟨(some 7), none, .bin .eql, [.slot 6, .val (.str ⟨#[116, 114, 117, 101]⟩)], none⟩,
       ⟨(some 5), none, .id, [.slot 7], none⟩])
     (.cond (.slot 5)
      (.seq
       (.region [
         ⟨(some 8), none, .build [(.int .i64 0), (.int .i64 0), (.str ⟨#[]⟩)] [(0, 1), (1, 1)], [.val (.int .i64 1), .val (.int .i64 1)], none⟩,
         ⟨none, none, .store 3, [.slot 2, .slot 8], none⟩])
       (.ret))
      (.seq
       (.region [
         ⟨(some 10), none, .id, [.slot 0], none⟩,
         ⟨(some 11), none, .bin .eql, [.slot 10, .val (.str ⟨#[102, 97, 108, 115, 101]⟩)], none⟩,
         ⟨(some 9), none, .id, [.slot 11], none⟩])
       (.cond (.slot 9)
        (.seq
         (.region [
           ⟨(some 12), none, .build [(.int .i64 0), (.int .i64 0), (.str ⟨#[]⟩)] [(0, 1)], [.val (.int .i64 1)], none⟩,
           ⟨none, none, .store 3, [.slot 2, .slot 12], none⟩])
         (.ret))
        (.seq
         (.region [
           ⟨(some 14), none, .id, [.slot 0], none⟩,
           ⟨(some 15), none, .bin .eql, [.slot 14, .val (.str ⟨#[110, 117, 108, 108]⟩)], none⟩,
           ⟨(some 16), none, .id, [.slot 15], none⟩,
           ⟨(some 17), (some (16, false)), .id, [.slot 0], none⟩,
           ⟨(some 18), (some (16, false)), .lenstr, [.slot 17], none⟩,
           ⟨(some 19), (some (16, false)), .bin .lss, [.slot 18, .val (.int .i64 1)], none⟩,
           ⟨(some 20), none, .pick, [.slot 16, .val (.bool true), .slot 19], none⟩,
           ⟨(some 13), none, .id, [.slot 20], none⟩])
         (.cond (.slot 13)
          (.seq
           (.region [
             ⟨(some 21), none, .build [(.int .i64 0), (.int .i64 0), (.str ⟨#[]⟩)] [], [], none⟩,
             ⟨none, none, .store 3, [.slot 2, .slot 21], none⟩])
           (.ret))
          (.seq
           (.region [
             ⟨(some 23), none, .id, [.slot 0], none⟩,
             ⟨(some 24), none, .lenstr, [.slot 23], none⟩,
             ⟨(some 25), none, .bin .gtr, [.slot 24, .val (.int .i64 1)], none⟩,
             ⟨(some 26), none, .id, [.slot 25], none⟩,
             ⟨(some 27), (some (26, true)), .id, [.slot 0], none⟩,
             ⟨(some 28), (some (26, true)), .ixstr, [.slot 27, .val (.int .i64 0)], none⟩,
             ⟨(some 29), (some (26, true)), .bin .eql, [.slot 28, .val (.int .u8 39)], none⟩,
             ⟨(some 30), none, .pick, [.slot 26, .slot 29, .val (.bool false)], none⟩,
             ⟨(some 22), none, .id, [.slot 30], none⟩])
           (.cond (.slot 22)
            (.seq
             (.region [
               ⟨(some 31), none, .id, [.slot 0], none⟩,
               ⟨(some 32), none, .call f_value_unquoted, [.slot 31], none⟩,
               ⟨(some 33), none, .build [(.int .i64 0), (.int .i64 0), (.str ⟨#[]⟩)] [(0, 1), (2, 1)], [.val (.int .i64 3), .slot 32], none⟩,
               ⟨none, none, .store 3, [.slot 2, .slot 33], none⟩])
             (.ret))
            (.seq
             (.region [
               ⟨(some 35), none, .id, [.slot 0], none⟩,
               ⟨(some 36), none, .lenstr, [.slot 35], none⟩,
               ⟨(some 37), none, .bin .gtr, [.slot 36, .val (.int .i64 1)], none⟩,
               ⟨(some 38), none, .id, [.slot 37], none⟩,
               ⟨(some 39), (some (38, true)), .id, [.slot 0], none⟩,
               ⟨(some 40), (some (38, true)), .ixstr, [.slot 39, .val (.int .i64 0)], none⟩,
               ⟨(some 41), (some (38, true)), .bin .eql, [.slot 40, .val (.int .u8 40)], none⟩,
               ⟨(some 42), none, .pick, [.slot 38, .slot 41, .val (.bool false)], none⟩,
               ⟨(some 34), none, .id, [.slot 42], none⟩])
             (.cond (.slot 34)
              (.seq
               (.region [
                 ⟨(some 43), none, .id, [.slot 0], none⟩,
                 ⟨(some 44), none, .id, [.slot 0], none⟩,
                 ⟨(some 45), none, .lenstr, [.slot 44], none⟩,
                 ⟨(some 46), none, .bin .sub, [.slot 45, .val (.int .i64 1)], none⟩,
                 ⟨(some 47), none, .slstr true true, [.slot 43, .val (.int .i64 1), .slot 46], none⟩,
                 ⟨(some 48), none, .build [(.int .i64 0), (.int .i64 0), (.str ⟨#[]⟩)] [(0, 1), (2, 1)], [.val (.int .i64 4), .slot 47], none⟩,
                 ⟨none, none, .store 3, [.slot 2, .slot 48], none⟩])
               (.ret))
              (.seq
               (.region [
                 ⟨(some 50), none, .id, [.slot 0], none⟩,
                 ⟨(some 51), none, .lenstr, [.slot 50], none⟩,
                 ⟨(some 52), none, .bin .gtr, [.slot 51, .val (.int .i64 1)], none⟩,
                 ⟨(some 53), none, .id, [.slot 52], none⟩,
                 ⟨(some 54), (some (53, true)), .id, [.slot 0], none⟩,
                 ⟨(some 55), (some (53, true)), .ixstr, [.slot 54, .val (.int .i64 0)], none⟩,
                 ⟨(some 56), (some (53, true)), .bin .eql, [.slot 55, .val (.int .u8 91)], none⟩,
                 ⟨(some 57), none, .pick, [.slot 53, .slot 56, .val (.bool false)], none⟩,
                 ⟨(some 49), none, .id, [.slot 57], none⟩])
               (.cond (.slot 49)
                (.seq
                 (.region [
                   ⟨(some 58), none, .id, [.slot 0], none⟩,
                   ⟨(some 59), none, .id, [.slot 0], none⟩,
                   ⟨(some 60), none, .lenstr, [.slot 59], none⟩,
                   ⟨(some 61), none, .bin .sub, [.slot 60, .val (.int .i64 1)], none⟩,
                   ⟨(some 62), none, .slstr true true, [.slot 58, .val (.int .i64 1), .slot 61], none⟩,
                   ⟨(some 63), none, .build [(.int .i64 0), (.int .i64 0), (.str ⟨#[]⟩)] [(0, 1), (2, 1)], [.val (.int .i64 5), .slot 62], none⟩,
                   ⟨none, none, .store 3, [.slot 2, .slot 63], none⟩])
                 (.ret))
                (.skip))))))))))))))
   (.seq
    (.region [
      ⟨(some 65), none, .id, [.slot 0], none⟩,
      ⟨(some 66), none, .call f_strconv_Atoi, [.slot 65], none⟩,
      ⟨(some 64), none, .id, [.slot 66], none⟩,
      ⟨(some 67), none, .extract 0, [.slot 64], none⟩,
      ⟨(some 68), none, .extract 1, [.slot 64], none⟩,
      ⟨(some 3), none, .id, [.slot 67], none⟩,
      ⟨(some 4), none, .id, [.slot 68], none⟩])
    (.seq
     (.region [
       ⟨(some 69), none, .id, [.slot 3], none⟩,
       ⟨(some 70), none, .build [(.int .i64 0), (.int .i64 0), (.str ⟨#[]⟩)] [(0, 1), (1, 1)], [.val (.int .i64 2), .slot 69], none⟩,
       ⟨none, none, .store 3, [.slot 2, .slot 70], none⟩])
     (.ret))))
def F_value_guess : IFun := ⟨71, [.cell 2 3 true], b_value_guess, 8, 0⟩
theorem c_value_guess : cFun Tryd.prog [1048578, 2097243, 2097244] 0 f_value_guess = some F_value_guess := by kernel_rfl

def L0_hedgerowref01_plain : ICode :=
 .seq
  (.seq
   (.region [
     ⟨(some 4), none, .id, [.slot 3], none⟩,
     ⟨(some 5), none, .id, [.slot 0], none⟩,
     ⟨(some 6), none, .lenstr, [.slot 5], none⟩,
     ⟨(some 7), none, .bin .lss, [.slot 4, .slot 6], none⟩])
   (.cond (.slot 7)
    (.skip)
    (.exit 0)))
  (.seq
   (.block 1
    (.seq
     (.region [
       ⟨(some 10), none, .id, [.slot 0], none⟩,
       ⟨(some 11), none, .id, [.slot 3], none⟩,
       ⟨(some 12), none, .ixstr, [.slot 10, .slot 11], none⟩,
       ⟨(some 13), none, .bin .lss, [.slot 12, .val (.int .u8 32)], none⟩,
       ⟨(some 14), none, .id, [.slot 13], none⟩,
       ⟨(some 15), (some (14, false)), .id, [.slot 0], none⟩,
       ⟨(some 16), (some (14, false)), .id, [.slot 3], none⟩,
       ⟨(some 17), (some (14, false)), .ixstr, [.slot 15, .slot 16], none⟩,
       ⟨(some 18), (some (14, false)), .bin .gtr, [.slot 17, .val (.int .u8 126)], none⟩,
       ⟨(some 19), none, .pick, [.slot 14, .val (.bool true), .slot 18], none⟩])
     (.cond (.slot 19)
      (.seq
       (.region [
         ⟨(some 2), none, .id, [.val (.bool false)], none⟩])
       (.ret))
      (.skip))))
   (.region [
     ⟨(some 8), none, .id, [.slot 3], none⟩,
     ⟨(some 9), none, .bin .add, [.slot 8, .val (.int .i64 1)], none⟩,
     ⟨(some 3), none, .id, [.slot 9], none⟩]))
def b_hedgerowref01_plain : ICode :=
 .seq
  (.region [
    ⟨(some 2), none, .id, [.val (.bool false)], none⟩])
  (.seq
   (.seq
    (.region [
      ⟨(some 3), none, .id, [.val (.int .i64 0)], none⟩])
    (.block 0
     (.loop L0_hedgerowref01_plain)))
   (.seq
    (.region [
      ⟨(some 20), none, .id, [.slot 0], none⟩,
      ⟨(some 21), none, .lenstr, [.slot 20], none⟩,
      ⟨(some 22), none, .bin .leq, [.slot 21, .val (.int .i64 64)], none⟩,
      ⟨(some 2), none, .id, [.slot 22], none⟩])
    (.ret)))
def F_hedgerowref01_plain : IFun := ⟨23, [.slot 2], b_hedgerowref01_plain, 8, 0⟩
theorem c_hedgerowref01_plain : cFun Tryd.prog [] 0 f_hedgerowref01_plain = some F_hedgerowref01_plain := by kernel_rfl

def L0_hedgerowref01_Name : ICode :=
 .seq
  (.seq
   (.region [
     ⟨(some 7), none, .id, [.slot 3], none⟩,
     ⟨(some 8), none, .id, [.slot 0], none⟩,
     ⟨(some 9), none, .lenstr, [.slot 8], none⟩,
     ⟨(some 10), none, .bin .lss, [.slot 7, .slot 9], none⟩])
   (.cond (.slot 10)
    (.skip)
    (.exit 0)))
  (.seq
   (.block 1
    (.seq
     (.region [
       ⟨(some 13), none, .id, [.slot 0], none⟩,
       ⟨(some 14), none, .id, [.slot 3], none⟩,
       ⟨(some 15), none, .ixstr, [.slot 13, .slot 14], none⟩,
       ⟨(some 4), none, .id, [.slot 15], none⟩])
     (.seq
      (.region [
        ⟨(some 16), none, .id, [.slot 4], none⟩,
        ⟨(some 17), none, .bin .geq, [.slot 16, .val (.int .u8 97)], none⟩,
        ⟨(some 18), none, .id, [.slot 17], none⟩,
        ⟨(some 19), (some (18, true)), .id, [.slot 4], none⟩,
        ⟨(some 20), (some (18, true)), .bin .leq, [.slot 19, .val (.int .u8 122)], none⟩,
        ⟨(some 21), none, .pick, [.slot 18, .slot 20, .val (.bool false)], none⟩,
        ⟨(some 22), none, .id, [.slot 21], none⟩,
        ⟨(some 23), (some (22, false)), .id, [.slot 4], none⟩,
        ⟨(some 24), (some (22, false)), .bin .geq, [.slot 23, .val (.int .u8 65)], none⟩,
        ⟨(some 25), (some (22, false)), .id, [.slot 24], none⟩,
        ⟨(some 26), (some (25, true)), .id, [.slot 4], none⟩,
        ⟨(some 27), (some (25, true)), .bin .leq, [.slot 26, .val (.int .u8 90)], none⟩,
        ⟨(some 28), (some (22, false)), .pick, [.slot 25, .slot 27, .val (.bool false)], none⟩,
        ⟨(some 29), none, .pick, [.slot 22, .val (.bool true), .slot 28], none⟩,
        ⟨(some 5), none, .id, [.slot 29], none⟩])
      (.seq
       (.region [
         ⟨(some 30), none, .id, [.slot 4], none⟩,
         ⟨(some 31), none, .bin .geq, [.slot 30, .val (.int .u8 48)], none⟩,
         ⟨(some 32), none, .id, [.slot 31], none⟩,
         ⟨(some 33), (some (32, true)), .id, [.slot 4], none⟩,
         ⟨(some 34), (some (32, true)), .bin .leq, [.slot 33, .val (.int .u8 57)], none⟩,
         ⟨(some 35), none, .pick, [.slot 32, .slot 34, .val (.bool false)], none⟩,
         ⟨(some 36), none, .id, [.slot 35], none⟩,
         ⟨(some 37), (some (36, false)), .id, [.slot 4], none⟩,
         ⟨(some 38), (some (36, false)), .bin .eql, [.slot 37, .val (.int .u8 95)], none⟩,
         ⟨(some 39), none, .pick, [.slot 36, .val (.bool true), .slot 38], none⟩,
         ⟨(some 6), none, .id, [.slot 39], none⟩])
       (.seq
        (.region [
          ⟨(some 40), none, .id, [.slot 5], none⟩,
          ⟨(some 41), none, .un .not, [.slot 40], none⟩,
          ⟨(some 42), none, .id, [.slot 41], none⟩,
          ⟨(some 43), (some (42, true)), .id, [.slot 6], none⟩,
          ⟨(some 44), (some (42, true)), .un .not, [.slot 43], none⟩,
          ⟨(some 45), (some (42, true)), .id, [.slot 44], none⟩,
          ⟨(some 46), (some (45, false)), .id, [.slot 3], none⟩,
          ⟨(some 47), (some (45, false)), .bin .eql, [.slot 46, .val (.int .i64 0)], none⟩,
          ⟨(some 48), (some (42, true)), .pick, [.slot 45, .val (.bool true), .slot 47], none⟩,
          ⟨(some 49), none, .pick, [.slot 42, .slot 48, .val (.bool false)], none⟩])
        (.cond (.slot 49)
         (.seq
          (.region [
            ⟨(some 2), none, .id, [.val (.bool false)], none⟩])
          (.ret))
         (.skip)))))))
   (.region [
     ⟨(some 11), none, .id, [.slot 3], none⟩,
     ⟨(some 12), none, .bin .add, [.slot 11, .val (.int .i64 1)], none⟩,
     ⟨(some 3), none, .id, [.slot 12], none⟩]))
def b_hedgerowref01_Name : ICode :=
 .seq
  (.region [
    ⟨(some 2), none, .id, [.val (.bool false)], none⟩])
  (.seq
   (.seq
    (.region [
      ⟨(some 3), none, .id, [.val (.int .i64 0)], none⟩])
    (.block 0
     (.loop L0_hedgerowref01_Name)))
   (.seq
    (.region [
      ⟨(some 50), none, .id, [.slot 0], none⟩,
      ⟨(some 51), none, .lenstr, [.slot 50], none⟩,
      ⟨(some 52), none, .bin .geq, [.slot 51, .val (.int .i64 1)], none⟩,
      ⟨(some 53), none, .id, [.slot 52], none⟩,
      ⟨(some 54), (some (53, true)), .id, [.slot 0], none⟩,
      ⟨(some 55), (some (53, true)), .lenstr, [.slot 54], none⟩,
      ⟨(some 56), (some (53, true)), .bin .leq, [.slot 55, .val (.int .i64 16)], none⟩,
      ⟨(some 57), none, .pick, [.slot 53, .slot 56, .val (.bool false)], none⟩,
      ⟨(some 2), none, .id, [.slot 57], none⟩])
    (.ret)))
def F_hedgerowref01_Name : IFun := ⟨58, [.slot 2], b_hedgerowref01_Name, 8, 0⟩
theorem c_hedgerowref01_Name : cFun Tryd.prog [] 0 f_hedgerowref01_Name = some F_hedgerowref01_Name := by kernel_rfl

def b_hedgerowref01_Link : ICode :=
 .seq
  (.region [
    ⟨(some 2), none, .allocL [(.str ⟨#[]⟩), (.str ⟨#[]⟩), (.str ⟨#[]⟩)], [], none⟩,
    ⟨(some 3), none, .id, [.val (.bool false)], none⟩])
  (.seq
   (.seq
    (.region [
      ⟨(some 5), none, .id, [.slot 0], none⟩,
      ⟨(some 6), none, .lenstr, [.slot 5], none⟩,
      ⟨(some 7), none, .bin .gtr, [.slot 6, .val (.int .i64 60)], none⟩])
    (.cond (.slot 7)
     (.seq
      (.region [
        ⟨(some 8), none, .build [(.str ⟨#[]⟩), (.str ⟨#[]⟩), (.str ⟨#[]⟩)] [], [], none⟩,
        ⟨none, none, .store 3, [.slot 2, .slot 8], none⟩,
        ⟨(some 3), none, .id, [.val (.bool false)], none⟩])
      (.ret))
     (.skip)))
   (.seq
    (.region [
      ⟨(some 9), none, .id, [.slot 0], none⟩,
      ⟨(some 10), none, .call f_hedgerowref01_Split, [.slot 9, .val (.int .u8 62)], none⟩,
      ⟨(some 4), none, .id, [.slot 10], none⟩])
    (.seq
     (.seq
      (.region [
        ⟨(some 11), none, .id, [.slot 4], none⟩,
        ⟨(some 12), none, .lensl, [.slot 11], none⟩,
        ⟨(some 13), none, .bin .neq, [.slot 12, .val (.int .i64 3)], none⟩,
        ⟨(some 14), none, .id, [.slot 13], none⟩,
        ⟨(some 15), (some (14, false)), .id, [.slot 4], none⟩,
        ⟨(some 16), (some (14, false)), .ixaddr 1, [.slot 15, .val (.int .i64 0)], none⟩,
        ⟨(some 17), (some (14, false)), .load 1 false, [.slot 16], none⟩,
        ⟨(some 18), (some (14, false)), .call f_hedgerowref01_Name, [.slot 17], none⟩,
        ⟨(some 19), (some (14, false)), .un .not, [.slot 18], none⟩,
        ⟨(some 20), none, .pick, [.slot 14, .val (.bool true), .slot 19], none⟩,
        ⟨(some 21), none, .id, [.slot 20], none⟩,
        ⟨(some 22), (some (21, false)), .id, [.slot 4], none⟩,
        ⟨(some 23), (some (21, false)), .ixaddr 1, [.slot 22, .val (.int .i64 1)], none⟩,
        ⟨(some 24), (some (21, false)), .load 1 false, [.slot 23], none⟩,
        ⟨(some 25), (some (21, false)), .call f_hedgerowref01_Name, [.slot 24], none⟩,
        ⟨(some 26), (some (21, false)), .un .not, [.slot 25], none⟩,
        ⟨(some 27), none, .pick, [.slot 21, .val (.bool true), .slot 26], none⟩,
        ⟨(some 28), none, .id, [.slot 27], none⟩,
        ⟨(some 29), (some (28, false)), .id, [.slot 4], none⟩,
        ⟨(some 30), (some (28, false)), .ixaddr 1, [.slot 29, .val (.int .i64 2)], none⟩,
        ⟨(some 31), (some (28, false)), .load 1 false, [.slot 30], none⟩,
        ⟨(some 32), (some (28, false)), .call f_hedgerowref01_Name, [.slot 31], none⟩,
        ⟨(some 33), (some (28, false)), .un .not, [.slot 32], none⟩,
        ⟨(some 34), none, .pick, [.slot 28, .val (.bool true), .slot 33], none⟩])
      (.cond (.slot 34)
       (.seq
        (.region [
          ⟨(some 35), none, .build [(.str ⟨#[]⟩), (.str ⟨#[]⟩), (.str ⟨#[]⟩)] [], [], none⟩,
          ⟨none, none, .store 3, [.slot 2, .slot 35], none⟩,
          ⟨(some 3), none, .id, [.val (.bool false)], none⟩])
        (.ret))
       (.skip)))
     (.seq
      (.region [
        ⟨(some 36), none, .id, [.slot 4], none⟩,
        ⟨(some 37), none, .ixaddr 1, [.slot 36, .val (.int .i64 0)], none⟩,
        ⟨(some 38), none, .load 1 false, [.slot 37], (some (.heap))⟩,
        ⟨(some 39), none, .id, [.slot 4], none⟩,
        ⟨(some 40), none, .ixaddr 1, [.slot 39, .val (.int .i64 1)], none⟩,
        ⟨(some 41), none, .load 1 false, [.slot 40], (some (.heap))⟩,
        ⟨(some 42), none, .id, [.slot 4], none⟩,
        ⟨(some 43), none, .ixaddr 1, [.slot 42, .val (.int .i64 2)], none⟩,
        ⟨(some 44), none, .load 1 false, [.slot 43], (some (.heap))⟩,
        ⟨(some 45), none, .build [(.str ⟨#[]⟩), (.str ⟨#[]⟩), (.str ⟨#[]⟩)] [(0, 1), (2, 1), (1, 1)], [.slot 38, .slot 41, .slot 44], none⟩,
        ⟨none, none, .store 3, [.slot 2, .slot 45], (some (.loc 2))⟩,
        ⟨(some 3), none, .id, [.val (.bool true)], none⟩])
      (.ret)))))
def F_hedgerowref01_Link : IFun := ⟨46, [.cell 2 3 true, .slot 3], b_hedgerowref01_Link, 8, 1⟩
theorem c_hedgerowref01_Link : cFun Tryd.prog [1048578, 3145765, 3145768, 3145771] 1 f_hedgerowref01_Link = some F_hedgerowref01_Link := by kernel_rfl

def L0_hedgerowref01_number : ICode :=
 .seq
  (.seq
   (.region [
     ⟨(some 11), none, .id, [.slot 5], none⟩,
     ⟨(some 12), none, .id, [.slot 0], none⟩,
     ⟨(some 13), none, .lenstr, [.slot 12], none⟩,
     ⟨(some 14), none, .bin .lss, [.slot 11, .slot 13], none⟩,
     ⟨(some 15), none, .id, [.slot 14], none⟩,
     ⟨(some 16), (some (15, true)), .id, [.slot 5], none⟩,
     ⟨(some 17), (some (15, true)), .bin .lss, [.slot 16, .val (.int .i64 15)], none⟩,
     ⟨(some 18), none, .pick, [.slot 15, .slot 17, .val (.bool false)], none⟩])
   (.cond (.slot 18)
    (.skip)
    (.exit 0)))
  (.seq
   (.block 1
    (.region [
      ⟨(some 21), none, .id, [.slot 3], none⟩,
      ⟨(some 22), none, .bin .mul, [.slot 21, .val (.int .i64 10)], none⟩,
      ⟨(some 23), none, .id, [.slot 0], none⟩,
      ⟨(some 24), none, .id, [.slot 5], none⟩,
      ⟨(some 25), none, .ixstr, [.slot 23, .slot 24], none⟩,
      ⟨(some 26), none, .conv .i64, [.slot 25], none⟩,
      ⟨(some 27), none, .bin .add, [.slot 22, .slot 26], none⟩,
      ⟨(some 28), none, .bin .sub, [.slot 27, .val (.int .i64 48)], none⟩,
      ⟨(some 3), none, .id, [.slot 28], none⟩]))
   (.region [
     ⟨(some 19), none, .id, [.slot 5], none⟩,
     ⟨(some 20), none, .bin .add, [.slot 19, .val (.int .i64 1)], none⟩,
     ⟨(some 5), none, .id, [.slot 20], none⟩]))
def b_hedgerowref01_number : ICode :=
 .seq
  (.region [
    ⟨(some 2), none, .id, [.val (.int .i64 0)], none⟩])
  (.seq
   (.region [
     ⟨(some 3), none, .id, [.val (.int .i64 0)], none⟩,
     ⟨(some 4), none, .id, [.val (.int .i64 1)], none⟩])
   (.seq
    (.seq
     (.region [
       ⟨(some 6), none, .id, [.slot 0], none⟩,
       ⟨(some 7), none, .ixstr, [.slot 6, .val (.int .i64 0)], none⟩,
       ⟨(some 8), none, .bin .eql, [.slot 7, .val (.int .u8 45)], none⟩])
     (.cond (.slot 8)
      (.seq
       (.region [
         ⟨(some 4), none, .id, [.val (.int .i64 (-1))], none⟩])
       (.region [
         ⟨(some 9), none, .id, [.slot 0], none⟩,
         ⟨(some 10), none, .slstr true false, [.slot 9, .val (.int .i64 1)], none⟩,
         ⟨(some 0), none, .id, [.slot 10], none⟩]))
      (.skip)))
    (.seq
     (.seq
      (.region [
        ⟨(some 5), none, .id, [.val (.int .i64 0)], none⟩])
      (.block 0
       (.loop L0_hedgerowref01_number)))
     (.seq
      (.region [
        ⟨(some 29), none, .id, [.slot 3], none⟩,
        ⟨(some 30), none, .id, [.slot 4], none⟩,
        ⟨(some 31), none, .bin .mul, [.slot 29, .slot 30], none⟩,
        ⟨(some 2), none, .id, [.slot 31], none⟩])
      (.ret)))))
def F_hedgerowref01_number : IFun := ⟨32, [.slot 2], b_hedgerowref01_number, 8, 0⟩
theorem c_hedgerowref01_number : cFun Tryd.prog [] 0 f_hedgerowref01_number = some F_hedgerowref01_number := by kernel_rfl

def L0_cmp_Orint : ICode :=
 .seq
  (.region [
    ⟨(some 9), none, .bin .lss, [.slot 8, .slot 7], none⟩])
  (.seq
   (.cond (.slot 9)
    (.skip)
    (.exit 0))
   (.seq
    (.block 1
     (.seq
      (.region [
        ⟨(some 10), none, .ixaddr 1, [.slot 6, .slot 8], none⟩,
        ⟨(some 11), none, .load 1 false, [.slot 10], none⟩,
        ⟨(some 5), none, .id, [.slot 11], none⟩])
      (.seq
       (.region [
         ⟨(some 12), none, .id, [.slot 5], none⟩,
         ⟨(some 13), none, .id, [.slot 3], none⟩,
         ⟨(some 14), none, .bin .neq, [.slot 12, .slot 13], none⟩])
       (.cond (.slot 14)
        (.seq
         (.region [
           ⟨(some 15), none, .id, [.slot 5], none⟩,
           ⟨(some 2), none, .id, [.slot 15], none⟩])
         (.ret))
        (.skip)))))
    (.region [
      ⟨(some 16), none, .bin .add, [.slot 8, .val (.int .i64 1)], none⟩,
      ⟨(some 8), none, .id, [.slot 16], none⟩])))
def b_cmp_Orint : ICode :=
 .seq
  (.region [
    ⟨(some 2), none, .id, [.val (.int .i64 0)], none⟩])
  (.seq
   (.region [
     ⟨(some 3), none, .id, [.val (.int .i64 0)], none⟩])
   (.seq
    (.seq
     (.region [
       ⟨(some 6), none, .id, [.slot 0], none⟩,
       ⟨(some 7), none, .lensl, [.slot 6], none⟩,
       ⟨(some 8), none, .id, [.val (.int .i64 0)], none⟩])
     (.block 0
      (.loop L0_cmp_Orint)))
    (.seq
     (.region [
       ⟨(some 17), none, .id, [.slot 3], none⟩,
       ⟨(some 2), none, .id, [.slot 17], none⟩])
     (.ret))))
def F_cmp_Orint : IFun := ⟨18, [.slot 2], b_cmp_Orint, 8, 0⟩
theorem c_cmp_Orint : cFun Tryd.prog [] 0 f_cmp_Orint = some F_cmp_Orint := by kernel_rfl

def b_cmp_Compareint : ICode :=
 .seq
  (.region [
    ⟨(some 4), none, .id, [.val (.int .i64 0)], none⟩])
  (.seq
   (.region [
     ⟨(some 7), none, .id, [.slot 0], none⟩,
     ⟨(some 8), none, .call f_cmp_isNaNint, [.slot 7], none⟩,
     ⟨(some 5), none, .id, [.slot 8], none⟩])
   (.seq
    (.region [
      ⟨(some 9), none, .id, [.slot 1], none⟩,
      ⟨(some 10), none, .call f_cmp_isNaNint, [.slot 9], none⟩,
      ⟨(some 6), none, .id, [.slot 10], none⟩])
    (.seq
     (.seq
      (.region [
        ⟨(some 11), none, .id, [.slot 5], none⟩])
      (.cond (.slot 11)
       (.seq
        (.seq
         (.region [
           ⟨(some 12), none, .id, [.slot 6], none⟩])
         (.cond (.slot 12)
          (.seq
           (.region [
             ⟨(some 4), none, .id, [.val (.int .i64 0)], none⟩])
           (.ret))
          (.skip)))
        (.seq
         (.region [
           ⟨(some 4), none, .id, [.val (.int .i64 (-1))], none⟩])
         (.ret)))
       (.skip)))
     (.seq
      (.seq
       (.region [
         ⟨(some 13), none, .id, [.slot 6], none⟩])
       (.cond (.slot 13)
        (.seq
         (.region [
           ⟨(some 4), none, .id, [.val (.int .i64 1)], none⟩])
         (.ret))
        (.skip)))
      (.seq
       (.seq
        (.region [
          ⟨(some 14), none, .id, [.slot 0], none⟩,
          ⟨(some 15), none, .id, [.slot 1], none⟩,
          ⟨(some 16), none, .bin .lss, [.slot 14, .slot 15], none⟩])
        (.cond (.slot 16)
         (.seq
          (.region [
            ⟨(some 4), none, .id, [.val (.int .i64 (-1))], none⟩])
          (.ret))
         (.skip)))
       (.seq
        (.seq
         (.region [
           ⟨(some 17), none, .id, [.slot 0], none⟩,
           ⟨(some 18), none, .id, [.slot 1], none⟩,
           ⟨(some 19), none, .bin .gtr, [.slot 17, .slot 18], none⟩])
         (.cond (.slot 19)
          (.seq
           (.region [
             ⟨(some 4), none, .id, [.val (.int .i64 1)], none⟩])
           (.ret))
          (.skip)))
        (.seq
         (.region [
           ⟨(some 4), none, .id, [.val (.int .i64 0)], none⟩])
         (.ret))))))))
def F_cmp_Compareint : IFun := ⟨20, [.slot 4], b_cmp_Compareint, 8, 0⟩
theorem c_cmp_Compareint : cFun Tryd.prog [] 0 f_cmp_Compareint = some F_cmp_Compareint := by kernel_rfl

def b_cmp_Comparestring : ICode :=
 .seq
  (.region [
    ⟨(some 4), none, .id, [.val (.int .i64 0)], none⟩])
  (.seq
   (.region [
     ⟨(some 7), none, .id, [.slot 0], none⟩,
     ⟨(some 8), none, .call f_cmp_isNaNstring, [.slot 7], none⟩,
     ⟨(some 5), none, .id, [.slot 8], none⟩])
   (.seq
    (.region [
      ⟨(some 9), none, .id, [.slot 1], none⟩,
      ⟨(some 10), none, .call f_cmp_isNaNstring, [.slot 9], none⟩,
      ⟨(some 6), none, .id, [.slot 10], none⟩])
    (.seq
     (.seq
      (.region [
        ⟨(some 11), none, .id, [.slot 5], none⟩])
      (.cond (.slot 11)
       (.seq
        (.seq
         (.region [
           ⟨(some 12), none, .id, [.slot 6], none⟩])
         (.cond (.slot 12)
          (.seq
           (.region [
             ⟨(some 4), none, .id, [.val (.int .i64 0)], none⟩])
           (.ret))
          (.skip)))
        (.seq
         (.region [
           ⟨(some 4), none, .id, [.val (.int .i64 (-1))], none⟩])
         (.ret)))
       (.skip)))
     (.seq
      (.seq
       (.region [
         ⟨(some 13), none, .id, [.slot 6], none⟩])
       (.cond (.slot 13)
        (.seq
         (.region [
           ⟨(some 4), none, .id, [.val (.int .i64 1)], none⟩])
         (.ret))
        (.skip)))
      (.seq
       (.seq
        (.region [
          ⟨(some 14), none, .id, [.slot 0], none⟩,
          ⟨(some 15), none, .id, [.slot 1], none⟩,
          ⟨(some 16), none, .bin .lss, [.slot 14, .slot 15], none⟩])
        (.cond (.slot 16)
         (.seq
          (.region [
            ⟨(some 4), none, .id, [.val (.int .i64 (-1))], none⟩])
          (.ret))
         (.skip)))
       (.seq
        (.seq
         (.region [
           ⟨(some 17), none, .id, [.slot 0], none⟩,
           ⟨(some 18), none, .id, [.slot 1], none⟩,
           ⟨(some 19), none, .bin .gtr, [.slot 17, .slot 18], none⟩])
         (.cond (.slot 19)
          (.seq
           (.region [
             ⟨(some 4), none, .id, [.val (.int .i64 1)], none⟩])
           (.ret))
          (.skip)))
        (.seq
         (.region [
           ⟨(some 4), none, .id, [.val (.int .i64 0)], none⟩])
         (.ret))))))))
def F_cmp_Comparestring : IFun := ⟨20, [.slot 4], b_cmp_Comparestring, 8, 0⟩
theorem c_cmp_Comparestring : cFun Tryd.prog [] 0 f_cmp_Comparestring = some F_cmp_Comparestring := by kernel_rfl

def F_strings_Builder_String : IFun := ⟨8, [], .trap, 5, 17⟩

def F_strings_Split : IFun := ⟨8, [], .trap, 0, 11⟩

def L0_value_names : ICode :=
 .seq
  (.region [
    ⟨(some 8), none, .bin .lss, [.slot 7, .slot 6], none⟩])
  (.seq
   (.cond (.slot 8)
    (.skip)
    (.exit 0))
   (.seq
    (.block 1
     (.seq
      (.region [
        ⟨(some 9), none, .ixaddr 1, [.slot 5, .slot 7], none⟩,
        ⟨(some 10), none, .load 1 false, [.slot 9], none⟩,
        ⟨(some 4), none, .id, [.slot 10], none⟩])
      (.seq
       (.region [
         ⟨(some 11), none, .id, [.slot 4], none⟩,
         ⟨(some 12), none, .call f_value_Name, [.slot 11], none⟩,
         ⟨(some 13), none, .un .not, [.slot 12], none⟩])
       (.cond (.slot 13)
        (.seq
         (.region [
           ⟨(some 2), none, .id, [.val (.bool false)], none⟩])
         (.ret))
        (.skip)))))
    (.region [
      ⟨(some 14), none, .bin .add, [.slot 7, .val (.int .i64 1)], none⟩,
      ⟨(some 7), none, .id, [.slot 14], none⟩])))
def b_value_names : ICode :=
 .seq
  (.region [
    ⟨(some 2), none, .id, [.val (.bool false)], none⟩])
  (.seq
   (.seq
    (.region [
      ⟨(some 5), none, .id, [.slot 0], none⟩,
      ⟨(some 6), none, .lensl, [.slot 5], none⟩,
      ⟨(some 7), none, .id, [.val (.int .i64 0)], none⟩])
    (.block 0
     (.loop L0_value_names)))
   (.seq
    (.region [
      ⟨(some 2), none, .id, [.val (.bool true)], none⟩])
    (.ret)))
def F_value_names : IFun := ⟨15, [.slot 2], b_value_names, 8, 0⟩
theorem c_value_names : cFun Tryd.prog [] 0 f_value_names = some F_value_names := by kernel_rfl

def b_value_letter : ICode :=
 .seq
  (.region [
    ⟨(some 2), none, .id, [.val (.bool false)], none⟩])
  (.seq
   (.region [
     ⟨(some 3), none, .id, [.slot 0], none⟩,
     ⟨(some 4), none, .bin .geq, [.slot 3, .val (.int .u8 97)], none⟩,
     ⟨(some 5), none, .id, [.slot 4], none⟩,
     ⟨(some 6), (some (5, true)), .id, [.slot 0], none⟩,
     ⟨(some 7), (some (5, true)), .bin .leq, [.slot 6, .val (.int .u8 122)], none⟩,
     ⟨(some 8), none, .pick, [.slot 5, .slot 7, .val (.bool false)], none⟩,
     ⟨(some 9), none, .id, [.slot 8], none⟩,
     ⟨(some 10), (some (9, false)), .id, [.slot 0], none⟩,
     ⟨(some 11), (some (9, false)), .bin .geq, [.slot 10, .val (.int .u8 65)], none⟩,
     ⟨(some 12), (some (9, false)), .id, [.slot 11], none⟩,
     ⟨(some 13), (some (12, true)), .id, [.slot 0], none⟩,
     ⟨(some 14), (some (12, true)), .bin .leq, [.slot 13, .val (.int .u8 90)], none⟩,
     ⟨(some 15), (some (9, false)), .pick, [.slot 12, .slot 14, .val (.bool false)], none⟩,
     ⟨(some 16), none, .pick, [.slot 9, .val (.bool true), .slot 15], none⟩,
     ⟨(some 2), none, .id, [.slot 16], none⟩])
   (.ret))
def F_value_letter : IFun := ⟨17, [.slot 2], b_value_letter, 8, 0⟩
theorem c_value_letter : cFun Tryd.prog [] 0 f_value_letter = some F_value_letter := by kernel_rfl

def b_value_inner : ICode :=
 .seq
  (.region [
    ⟨(some 2), none, .id, [.val (.bool false)], none⟩])
  (.seq
   (.region [
     ⟨(some 3), none, .id, [.slot 0], none⟩,
     ⟨(some 4), none, .call f_value_letter, [.slot 3], none⟩,
     ⟨(some 5), none, .id, [.slot 4], none⟩,
     ⟨(some 6), (some (5, false)), .id, [.slot 0], none⟩,
     ⟨(some 7), (some (5, false)), .bin .geq, [.slot 6, .val (.int .u8 48)], none⟩,
     ⟨(some 8), (some (5, false)), .id, [.slot 7], none⟩,
     ⟨(some 9), (some (8, true)), .id, [.slot 0], none⟩,
     ⟨(some 10), (some (8, true)), .bin .leq, [.slot 9, .val (.int .u8 57)], none⟩,
     ⟨(some 11), (some (5, false)), .pick, [.slot 8, .slot 10, .val (.bool false)], none⟩,
     ⟨(some 12), none, .pick, [.slot 5, .val (.bool true), .slot 11], none⟩,
     ⟨(some 13), none, .id, [.slot 12], none⟩,
     ⟨(some 14), (some (13, false)), .id, [.slot 0], none⟩,
     ⟨(some 15), (some (13, false)), .bin .eql, [.slot 14, .val (.int .u8 95)], none⟩,
     ⟨(some 16), none, .pick, [.slot 13, .val (.bool true), .slot 15], none⟩,
     ⟨(some 2), none, .id, [.slot 16], none⟩])
   (.ret))
def F_value_inner : IFun := ⟨17, [.slot 2], b_value_inner, 8, 0⟩
theorem c_value_inner : cFun Tryd.prog [] 0 f_value_inner = some F_value_inner := by kernel_rfl

def b_value_empty : ICode :=
 .seq
  (.region [
    ⟨(some 2), none, .id, [.val (.bool false)], none⟩])
  (.seq
   (.region [
     ⟨(some 3), none, .id, [.slot 0], none⟩,
     ⟨(some 4), none, .call f_strings_Join, [.slot 3, .val (.str ⟨#[]⟩)], none⟩,
     ⟨(some 5), none, .bin .eql, [.slot 4, .val (.str ⟨#[]⟩)], none⟩,
     ⟨(some 2), none, .id, [.slot 5], none⟩])
   (.ret))
def F_value_empty : IFun := ⟨6, [.slot 2], b_value_empty, 8, 0⟩
theorem c_value_empty : cFun Tryd.prog [2097264] 0 f_value_empty = some F_value_empty := by kernel_rfl

def L0_value_plain : ICode :=
 .seq
  (.region [
    ⟨(some 7), none, .next, [.slot 6], none⟩,
    ⟨(some 8), none, .extract 0, [.slot 7], none⟩])
  (.seq
   (.cond (.slot 8)
    (.skip)
    (.exit 0))
   (.block 1
    (.seq
     (.region [
       ⟨(some 9), none, .extract 2, [.slot 7], none⟩,
       ⟨(some 4), none, .id, [.slot 9], none⟩])
     (.seq
      (.region [
        ⟨(some 10), none, .id, [.slot 4], none⟩,
        ⟨(some 11), none, .bin .lss, [.slot 10, .val (.int .i32 32)], none⟩,
        ⟨(some 12), none, .id, [.slot 11], none⟩,
        ⟨(some 13), (some (12, false)), .id, [.slot 4], none⟩,
        ⟨(some 14), (some (12, false)), .bin .gtr, [.slot 13, .val (.int .i32 126)], none⟩,
        ⟨(some 15), none, .pick, [.slot 12, .val (.bool true), .slot 14], none⟩])
      (.cond (.slot 15)
       (.seq
        (.region [
          ⟨(some 2), none, .id, [.val (.bool false)], none⟩])
        (.ret))
       (.skip))))))
def b_value_plain : ICode :=
 .seq
  (.region [
    ⟨(some 2), none, .id, [.val (.bool false)], none⟩])
  (.seq
   (.seq
    (.region [
      ⟨(some 5), none, .id, [.slot 0], none⟩,
      ⟨(some 6), none, .range, [.slot 5], none⟩])
    (.block 0
     (.loop L0_value_plain)))
   (.seq
    (.region [
      ⟨(some 16), none, .id, [.slot 0], none⟩,
      ⟨(some 17), none, .lenstr, [.slot 16], none⟩,
      ⟨(some 18), none, .bin .leq, [.slot 17, .val (.int .i64 64)], none⟩,
      ⟨(some 2), none, .id, [.slot 18], none⟩])
    (.ret)))
def F_value_plain : IFun := ⟨19, [.slot 2], b_value_plain, 8, 0⟩
theorem c_value_plain : cFun Tryd.prog [] 0 f_value_plain = some F_value_plain := by kernel_rfl

def b_strconv_FormatBool_88 : ICode :=
 .seq
  (.region [
    ⟨(some 2), none, .id, [.val (.str ⟨#[]⟩)], none⟩])
  (.seq
   (.seq
    (.region [
      ⟨(some 3), none, .id, [.slot 0], none⟩])
    (.cond (.slot 3)
     (.seq
      (.region [
        ⟨(some 2), none, .id, [.val (.str ⟨#[116, 114, 117, 101]⟩)], none⟩])
      (.ret))
     (.skip)))
   (.seq
    (.region [
      ⟨(some 2), none, .id, [.val (.str ⟨#[102, 97, 108, 115, 101]⟩)], none⟩])
    (.ret)))
def F_strconv_FormatBool_88 : IFun := ⟨4, [.slot 2], b_strconv_FormatBool_88, 8, 0⟩
theorem c_strconv_FormatBool_88 : cFun Tryd.prog [] 0 f_strconv_FormatBool_88 = some F_strconv_FormatBool_88 := by kernel_rfl

def b_strings_Builder_WriteByte : ICode :=
 .seq
  (.region [
    ⟨(some 4), none, .id, [.val .niliface], none⟩])
  (.seq
   (.region [
     ⟨(some 5), none, .id, [.slot 0], none⟩,
     ⟨(some 6), none, .call f_strings_Builder_copyCheck, [.slot 5], none⟩])
   (.seq
    (.region [
      ⟨(some 7), none, .id, [.slot 0], none⟩,
      ⟨(some 8), none, .id, [.slot 0], none⟩,
      ⟨(some 9), none, .nilchk, [.slot 8], none⟩,
      ⟨(some 10), none, .faddr 1, [.slot 9], none⟩,
      ⟨(some 11), none, .load 1 false, [.slot 10], none⟩,
      ⟨(some 12), none, .id, [.slot 1], none⟩,
      ⟨(some 13), none, .buildSl 1 1 (.int .u8 0) [0], [.slot 12], none⟩,
      ⟨(some 14), none, .append 5 1 1, [.slot 11, .slot 13], none⟩,
      ⟨(some 15), none, .nilchk, [.slot 7], none⟩,
      ⟨(some 16), none, .faddr 1, [.slot 15], none⟩,
      ⟨none, none, .store 1, [.slot 16, .slot 14], none⟩])
    (.seq
     (.region [
       ⟨(some 4), none, .id, [.val .niliface], none⟩])
     (.ret))))
def F_strings_Builder_WriteByte : IFun := ⟨17, [.slot 4], b_strings_Builder_WriteByte, 8, 0⟩
theorem c_strings_Builder_WriteByte : cFun Tryd.prog [] 0 f_strings_Builder_WriteByte = some F_strings_Builder_WriteByte := by kernel_rfl

def L0_value_unquoted : ICode :=
 .seq
  (.seq
   (.region [
     ⟨(some 5), none, .id, [.slot 4], none⟩,
     ⟨(some 6), none, .id, [.slot 0], none⟩,
     ⟨(some 7), none, .lenstr, [.slot 6], none⟩,
     ⟨(some 8), none, .bin .sub, [.slot 7, .val (.int .i64 1)], none⟩,
     ⟨(some 9), none, .bin .lss, [.slot 5, .slot 8], none⟩])
   (.cond (.slot 9)
    (.skip)
    (.exit 0)))
  (.seq
   (.block 1
    (.seq
     (.seq
      (.region [
        ⟨(some 12), none, .id, [.slot 0], none⟩,
        ⟨(some 13), none, .id, [.slot 4], none⟩,
        ⟨(some 14), none, .ixstr, [.slot 12, .slot 13], none⟩,
        ⟨(some 15), none, .bin .eql, [.slot 14, .val (.int .u8 92)], none⟩])
      (.cond (.slot 15)
       (.region [
         ⟨(some 16), none, .id, [.slot 4], none⟩,
         ⟨(some 17), none, .bin .add, [.slot 16, .val (.int .i64 1)], none⟩,
         ⟨(some 4), none, .id, [.slot 17], none⟩])
       (.skip)))
     (.region [
       ⟨(some 18), none, .id, [.slot 0], none⟩,
       ⟨(some 19), none, .id, [.slot 4], none⟩,
       ⟨(some 20), none, .ixstr, [.slot 18, .slot 19], none⟩,
       ⟨(some 21), none, .call f_strings_Builder_WriteByte, [.slot 3, .slot 20], none⟩])))
   (.region [
     ⟨(some 10), none, .id, [.slot 4], none⟩,
     ⟨(some 11), none, .bin .add, [.slot 10, .val (.int .i64 1)], none⟩,
     ⟨(some 4), none, .id, [.slot 11], none⟩]))
def b_value_unquoted : ICode :=
 .seq
  (.region [
    ⟨(some 2), none, .id, [.val (.str ⟨#[]⟩)], none⟩])
  (.seq
   (.region [
     ⟨(some 3), none, .allocH 117 [.nilptr, .nilsl], [], none⟩])
   (.seq
    (.seq
     (.region [
       ⟨(some 4), none, .id, [.val (.int .i64 1)], none⟩])
     (.block 0
      (.loop L0_value_unquoted)))
    (.seq
     (.region [
       ⟨(some 22), none, .call f_strings_Builder_String, [.slot 3], none⟩,
       ⟨(some 2), none, .id, [.slot 22], none⟩])
     (.ret))))
def F_value_unquoted : IFun := ⟨23, [.slot 2], b_value_unquoted, 8, 1⟩
theorem c_value_unquoted : cFun Tryd.prog [3, 2097225] 1 f_value_unquoted = some F_value_unquoted := by kernel_rfl

def F_strconv_Atoi : IFun := ⟨8, [], .trap, 203, 13⟩

def L0_hedgerowref01_Split : ICode :=
 .seq
  (.seq
   (.region [
     ⟨(some 8), none, .id, [.slot 6], none⟩,
     ⟨(some 9), none, .id, [.slot 0], none⟩,
     ⟨(some 10), none, .lenstr, [.slot 9], none⟩,
     ⟨(some 11), none, .bin .lss, [.slot 8, .slot 10], none⟩])
   (.cond (.slot 11)
    (.skip)
    (.exit 0)))
  (.seq
   (.block 1
    (.seq
     (.region [
       ⟨(some 14), none, .id, [.slot 0], none⟩,
       ⟨(some 15), none, .id, [.slot 6], none⟩,
       ⟨(some 16), none, .ixstr, [.slot 14, .slot 15], none⟩,
       ⟨(some 17), none, .id, [.slot 1], none⟩,
       ⟨(some 18), none, .bin .eql, [.slot 16, .slot 17], none⟩])
     (.cond (.slot 18)
      (.region [
        ⟨(some 19), none, .id, [.slot 5], none⟩,
        ⟨(some 20), none, .buildSl 1 1 (.str ⟨#[]⟩) [0], [.val (.str ⟨#[]⟩)], none⟩,
        ⟨(some 21), none, .append 9 1 16, [.slot 19, .slot 20], none⟩,
        ⟨(some 5), none, .id, [.slot 21], none⟩])
      (.region [
        ⟨(some 22), none, .id, [.slot 5], none⟩,
        ⟨(some 23), none, .id, [.slot 5], none⟩,
        ⟨(some 24), none, .lensl, [.slot 23], none⟩,
        ⟨(some 25), none, .bin .sub, [.slot 24, .val (.int .i64 1)], none⟩,
        ⟨(some 26), none, .id, [.slot 5], none⟩,
        ⟨(some 27), none, .id, [.slot 5], none⟩,
        ⟨(some 28), none, .lensl, [.slot 27], none⟩,
        ⟨(some 29), none, .bin .sub, [.slot 28, .val (.int .i64 1)], none⟩,
        ⟨(some 30), none, .ixaddr 1, [.slot 26, .slot 29], none⟩,
        ⟨(some 31), none, .load 1 false, [.slot 30], (some (.heap))⟩,
        ⟨(some 32), none, .id, [.slot 0], none⟩,
        ⟨(some 33), none, .id, [.slot 6], none⟩,
        ⟨(some 34), none, .id, [.slot 6], none⟩,
        ⟨(some 35), none, .bin .add, [.slot 34, .val (.int .i64 1)], none⟩,
        ⟨(some 36), none, .slstr true true, [.slot 32, .slot 33, .slot 35], none⟩,
        ⟨(some 37), none, .bin .add, [.slot 31, .slot 36], none⟩,
        ⟨(some 38), none, .ixaddr 1, [.slot 22, .slot 25], none⟩,
        ⟨none, none, .store 1, [.slot 38, .slot 37], (some (.heap))⟩]))))
   (.region [
     ⟨(some 12), none, .id, [.slot 6], none⟩,
     ⟨(some 13), none, .bin .add, [.slot 12, .val (.int .i64 1)], none⟩,
     ⟨(some 6), none, .id, [.slot 13], none⟩]))
def b_hedgerowref01_Split : ICode :=
 .seq
  (.region [
    ⟨(some 4), none, .id, [.val .nilsl], none⟩])
  (.seq
   (.region [
     ⟨(some 7), none, .buildR 9 1 1 (.str ⟨#[]⟩) [0], [.val (.str ⟨#[]⟩)], none⟩,
     ⟨(some 5), none, .id, [.slot 7], none⟩])
   (.seq
    (.seq
     (.region [
       ⟨(some 6), none, .id, [.val (.int .i64 0)], none⟩])
     (.block 0
      (.loop L0_hedgerowref01_Split)))
    (.seq
     (.region [
       ⟨(some 39), none, .id, [.slot 5], none⟩,
       ⟨(some 4), none, .id, [.slot 39], none⟩])
     (.ret))))
def F_hedgerowref01_Split : IFun := ⟨40, [.slot 4], b_hedgerowref01_Split, 8, 0⟩
theorem c_hedgerowref01_Split : cFun Tryd.prog [7, 3145758, 3145766] 0 f_hedgerowref01_Split = some F_hedgerowref01_Split := by kernel_rfl

def b_cmp_isNaNint : ICode :=
 .seq
  (.region [
    ⟨(some 2), none, .id, [.val (.bool false)], none⟩])
  (.seq
   (.region [
     ⟨(some 3), none, .id, [.slot 0], none⟩,
     ⟨(some 4), none, .id, [.slot 0], none⟩,
     ⟨(some 5), none, .bin .neq, [.slot 3, .slot 4], none⟩,
     ⟨(some 2), none, .id, [.slot 5], none⟩])
   (.ret))
def F_cmp_isNaNint : IFun := ⟨6, [.slot 2], b_cmp_isNaNint, 8, 0⟩
theorem c_cmp_isNaNint : cFun Tryd.prog [] 0 f_cmp_isNaNint = some F_cmp_isNaNint := by kernel_rfl

def b_cmp_isNaNstring : ICode :=
 .seq
  (.region [
    ⟨(some 2), none, .id, [.val (.bool false)], none⟩])
  (.seq
   (.region [
     ⟨(some 3), none, .id, [.slot 0], none⟩,
     ⟨(some 4), none, .id, [.slot 0], none⟩,
     ⟨(some 5), none, .bin .neq, [.slot 3, .slot 4], none⟩,
     ⟨(some 2), none, .id, [.slot 5], none⟩])
   (.ret))
def F_cmp_isNaNstring : IFun := ⟨6, [.slot 2], b_cmp_isNaNstring, 8, 0⟩
theorem c_cmp_isNaNstring : cFun Tryd.prog [] 0 f_cmp_isNaNstring = some F_cmp_isNaNstring := by kernel_rfl

def F_strings_Join : IFun := ⟨8, [], .trap, 0, 10⟩

def F_strings_Builder_copyCheck : IFun := ⟨8, [], .trap, 117, 20⟩

def rows : List (Nat × List Nat × IFun) := [
  (3, [1048577, 1048580, 2097161], F_hedgerowlaw01_ValueTexts),
  (4, [1048579, 1048581, 2097161], F_hedgerowlaw01_ValueParses),
  (5, [1048579, 1048580, 1048581, 2097161], F_hedgerowlaw01_ValueOrders),
  (9, [1048577, 1048578, 1048580, 1048582, 1048584], F_hedgerowlaw01_fixed),
  (10, [1048577, 2097194, 2097195], F_value_String),
  (11, [1048577], F_hedgerowref01_Text),
  (12, [1048578, 1048580], F_value_Parse),
  (13, [1048577, 1048579, 2097200], F_hedgerowref01_Right),
  (14, [1048578, 1048584], F_hedgerowref01_Parse),
  (15, [1048578, 1048579], F_value_Compare),
  (16, [1048578, 1048579], F_hedgerowref01_Compare),
  (36, [1048577, 1048578, 2097234], F_value_Link),
  (37, [], F_value_Name),
  (38, [1048577], F_value_Elem),
  (39, [1048577, 1048578], F_value_OfLink),
  (40, [1048577, 1048579], F_value_Right),
  (41, [], F_strconv_FormatBool),
  (42, [], F_strconv_Itoa),
  (43, [3, 2097225], F_value_quoted),
  (44, [], F_hedgerowref01_Digits),
  (45, [1048578, 2097243, 2097244], F_value_guess),
  (46, [], F_hedgerowref01_plain),
  (47, [], F_hedgerowref01_Name),
  (48, [1048578, 3145765, 3145768, 3145771], F_hedgerowref01_Link),
  (49, [], F_hedgerowref01_number),
  (50, [], F_cmp_Orint),
  (51, [], F_cmp_Compareint),
  (52, [], F_cmp_Comparestring),
  (73, [], F_strings_Builder_String),
  (82, [], F_strings_Split),
  (83, [], F_value_names),
  (84, [], F_value_letter),
  (85, [], F_value_inner),
  (86, [2097264], F_value_empty),
  (87, [], F_value_plain),
  (88, [], F_strconv_FormatBool_88),
  (90, [], F_strings_Builder_WriteByte),
  (91, [3, 2097225], F_value_unquoted),
  (92, [], F_strconv_Atoi),
  (93, [7, 3145758, 3145766], F_hedgerowref01_Split),
  (94, [], F_cmp_isNaNint),
  (95, [], F_cmp_isNaNstring),
  (112, [], F_strings_Join),
  (114, [], F_strings_Builder_copyCheck)]
def T : Nat → Option IFun := tableOf rows
theorem T_rows : RowsOk Tryd.prog rows :=
  .cons c_hedgerowlaw01_ValueTexts (by decide) <|
  .cons c_hedgerowlaw01_ValueParses (by decide) <|
  .cons c_hedgerowlaw01_ValueOrders (by decide) <|
  .cons c_hedgerowlaw01_fixed (by decide) <|
  .cons c_value_String (by decide) <|
  .cons c_hedgerowref01_Text (by decide) <|
  .cons c_value_Parse (by decide) <|
  .cons c_hedgerowref01_Right (by decide) <|
  .cons c_hedgerowref01_Parse (by decide) <|
  .cons c_value_Compare (by decide) <|
  .cons c_hedgerowref01_Compare (by decide) <|
  .cons c_value_Link (by decide) <|
  .cons c_value_Name (by decide) <|
  .cons c_value_Elem (by decide) <|
  .cons c_value_OfLink (by decide) <|
  .cons c_value_Right (by decide) <|
  .cons c_strconv_FormatBool (by decide) <|
  .lib lib12 (by decide) <|
  .cons c_value_quoted (by decide) <|
  .cons c_hedgerowref01_Digits (by decide) <|
  .cons c_value_guess (by decide) <|
  .cons c_hedgerowref01_plain (by decide) <|
  .cons c_hedgerowref01_Name (by decide) <|
  .cons c_hedgerowref01_Link (by decide) <|
  .cons c_hedgerowref01_number (by decide) <|
  .cons c_cmp_Orint (by decide) <|
  .cons c_cmp_Compareint (by decide) <|
  .cons c_cmp_Comparestring (by decide) <|
  .lib lib17 (by decide) <|
  .lib lib11 (by decide) <|
  .cons c_value_names (by decide) <|
  .cons c_value_letter (by decide) <|
  .cons c_value_inner (by decide) <|
  .cons c_value_empty (by decide) <|
  .cons c_value_plain (by decide) <|
  .cons c_strconv_FormatBool_88 (by decide) <|
  .cons c_strings_Builder_WriteByte (by decide) <|
  .cons c_value_unquoted (by decide) <|
  .lib lib13 (by decide) <|
  .cons c_hedgerowref01_Split (by decide) <|
  .cons c_cmp_isNaNint (by decide) <|
  .cons c_cmp_isNaNstring (by decide) <|
  .lib lib10 (by decide) <|
  .lib lib20 (by decide) <|
  .nil
theorem T_ok : TableOk Tryd.prog T := tableOf_ok (by kernel_rfl) T_rows.all
theorem T_hedgerowlaw01_ValueTexts : T f_hedgerowlaw01_ValueTexts = some F_hedgerowlaw01_ValueTexts := by kernel_rfl
theorem T_hedgerowlaw01_ValueParses : T f_hedgerowlaw01_ValueParses = some F_hedgerowlaw01_ValueParses := by kernel_rfl
theorem T_hedgerowlaw01_ValueOrders : T f_hedgerowlaw01_ValueOrders = some F_hedgerowlaw01_ValueOrders := by kernel_rfl
theorem T_hedgerowlaw01_fixed : T f_hedgerowlaw01_fixed = some F_hedgerowlaw01_fixed := by kernel_rfl
theorem T_value_String : T f_value_String = some F_value_String := by kernel_rfl
theorem T_hedgerowref01_Text : T f_hedgerowref01_Text = some F_hedgerowref01_Text := by kernel_rfl
theorem T_value_Parse : T f_value_Parse = some F_value_Parse := by kernel_rfl
theorem T_hedgerowref01_Right : T f_hedgerowref01_Right = some F_hedgerowref01_Right := by kernel_rfl
theorem T_hedgerowref01_Parse : T f_hedgerowref01_Parse = some F_hedgerowref01_Parse := by kernel_rfl
theorem T_value_Compare : T f_value_Compare = some F_value_Compare := by kernel_rfl
theorem T_hedgerowref01_Compare : T f_hedgerowref01_Compare = some F_hedgerowref01_Compare := by kernel_rfl
theorem T_value_Link : T f_value_Link = some F_value_Link := by kernel_rfl
theorem T_value_Name : T f_value_Name = some F_value_Name := by kernel_rfl
theorem T_value_Elem : T f_value_Elem = some F_value_Elem := by kernel_rfl
theorem T_value_OfLink : T f_value_OfLink = some F_value_OfLink := by kernel_rfl
theorem T_value_Right : T f_value_Right = some F_value_Right := by kernel_rfl
theorem T_strconv_FormatBool : T f_strconv_FormatBool = some F_strconv_FormatBool := by kernel_rfl
theorem T_strconv_Itoa : T f_strconv_Itoa = some F_strconv_Itoa := by kernel_rfl
theorem T_value_quoted : T f_value_quoted = some F_value_quoted := by kernel_rfl
theorem T_hedgerowref01_Digits : T f_hedgerowref01_Digits = some F_hedgerowref01_Digits := by kernel_rfl
theorem T_value_guess : T f_value_guess = some F_value_guess := by kernel_rfl
theorem T_hedgerowref01_plain : T f_hedgerowref01_plain = some F_hedgerowref01_plain := by kernel_rfl
theorem T_hedgerowref01_Name : T f_hedgerowref01_Name = some F_hedgerowref01_Name := by kernel_rfl
theorem T_hedgerowref01_Link : T f_hedgerowref01_Link = some F_hedgerowref01_Link := by kernel_rfl
theorem T_hedgerowref01_number : T f_hedgerowref01_number = some F_hedgerowref01_number := by kernel_rfl
theorem T_cmp_Orint : T f_cmp_Orint = some F_cmp_Orint := by kernel_rfl
theorem T_cmp_Compareint : T f_cmp_Compareint = some F_cmp_Compareint := by kernel_rfl
theorem T_cmp_Comparestring : T f_cmp_Comparestring = some F_cmp_Comparestring := by kernel_rfl
theorem T_strings_Builder_String : T f_strings_Builder_String = some F_strings_Builder_String := by kernel_rfl
theorem T_strings_Split : T f_strings_Split = some F_strings_Split := by kernel_rfl
theorem T_value_names : T f_value_names = some F_value_names := by kernel_rfl
theorem T_value_letter : T f_value_letter = some F_value_letter := by kernel_rfl
theorem T_value_inner : T f_value_inner = some F_value_inner := by kernel_rfl
theorem T_value_empty : T f_value_empty = some F_value_empty := by kernel_rfl
theorem T_value_plain : T f_value_plain = some F_value_plain := by kernel_rfl
theorem T_strconv_FormatBool_88 : T f_strconv_FormatBool_88 = some F_strconv_FormatBool_88 := by kernel_rfl
theorem T_strings_Builder_WriteByte : T f_strings_Builder_WriteByte = some F_strings_Builder_WriteByte := by kernel_rfl
theorem T_value_unquoted : T f_value_unquoted = some F_value_unquoted := by kernel_rfl
theorem T_strconv_Atoi : T f_strconv_Atoi = some F_strconv_Atoi := by kernel_rfl
theorem T_hedgerowref01_Split : T f_hedgerowref01_Split = some F_hedgerowref01_Split := by kernel_rfl
theorem T_cmp_isNaNint : T f_cmp_isNaNint = some F_cmp_isNaNint := by kernel_rfl
theorem T_cmp_isNaNstring : T f_cmp_isNaNstring = some F_cmp_isNaNstring := by kernel_rfl
theorem T_strings_Join : T f_strings_Join = some F_strings_Join := by kernel_rfl
theorem T_strings_Builder_copyCheck : T f_strings_Builder_copyCheck = some F_strings_Builder_copyCheck := by kernel_rfl
end Go.Proofs.YtbcdhjalciljaaaDoor
