/- By program (Gen): the functions of the program, as the shadow machine has them. -/
import Derived.Test.YtiacgomjmijfcaaDoorChecked
import Derived.Test.YtiacgomjmijfcaaDoorShT
set_option linter.all false
namespace Go.Proofs.YtiacgomjmijfcaaDoor
open Go.Sh
set_option maxRecDepth 100000

abbrev f_main_main : Nat := 0
abbrev f_gosem_cut : Nat := 1
/-- gosem.cut.init -/
abbrev f_gosem_cut_init : Nat := 2
/-- hedgerow/hedgerowlaw22.EvalLaws -/
abbrev f_hedgerowlaw22_EvalLaws : Nat := 3
/-- hedgerow/hedgerowlaw07.StorePuts -/
abbrev f_hedgerowlaw07_StorePuts : Nat := 4
/-- hedgerow/hedgerowlaw22.fixed -/
abbrev f_hedgerowlaw22_fixed : Nat := 5
/-- hedgerow/eval.Eval -/
abbrev f_eval_Eval : Nat := 6
/-- hedgerow/hedgerowlaw07.fixed -/
abbrev f_hedgerowlaw07_fixed : Nat := 7
/-- hedgerow/store.New -/
abbrev f_store_New : Nat := 8
/-- hedgerow/hedgerowref01.Elem -/
abbrev f_hedgerowref01_Elem : Nat := 9
/-- hedgerow/hedgerowref06.Change -/
abbrev f_hedgerowref06_Change : Nat := 10
/-- hedgerow/hedgerowref07.First -/
abbrev f_hedgerowref07_First : Nat := 11
/-- (*hedgerow/store.Store).Put -/
abbrev f_store_Store_Put : Nat := 12
/-- (*hedgerow/store.Store).Entries -/
abbrev f_store_Store_Entries : Nat := 13
/-- hedgerow/hedgerowref07.Less -/
abbrev f_hedgerowref07_Less : Nat := 14
/-- hedgerow/store.Order -/
abbrev f_store_Order : Nat := 15
/-- hedgerow/eval.True -/
abbrev f_eval_True : Nat := 16
/-- (hedgerow/eval.Env).Has -/
abbrev f_eval_Env_Has : Nat := 17
/-- (hedgerow/eval.Env).Get -/
abbrev f_eval_Env_Get : Nat := 18
/-- hedgerow/eval.Eval$1 -/
abbrev f_eval_Eval_1 : Nat := 19
/-- hedgerow/value.Right -/
abbrev f_value_Right : Nat := 20
/-- hedgerow/expr.Right -/
abbrev f_expr_Right : Nat := 21
/-- slices.ContainsFunc[hedgerow/eval.Env,hedgerow/eval.Bind] -/
abbrev f_slices_ContainsFunceval_Enveval_Bind : Nat := 22
/-- (*hedgerow/eval.reckoner).at -/
abbrev f_eval_reckoner_at : Nat := 23
/-- (*hedgerow/store.Store).Do -/
abbrev f_store_Store_Do : Nat := 24
/-- (*hedgerow/store.Store).Has -/
abbrev f_store_Store_Has : Nat := 25
/-- (*hedgerow/store.Store).Len -/
abbrev f_store_Store_Len : Nat := 26
/-- hedgerow/hedgerowref01.Name -/
abbrev f_hedgerowref01_Name : Nat := 27
/-- hedgerow/hedgerowref01.Right -/
abbrev f_hedgerowref01_Right : Nat := 28
/-- hedgerow/value.Elem -/
abbrev f_value_Elem : Nat := 29
/-- hedgerow/store.entry -/
abbrev f_store_entry : Nat := 30
/-- hedgerow/store.byDot -/
abbrev f_store_byDot : Nat := 31
/-- (*hedgerow/store.Store).lay -/
abbrev f_store_Store_lay : Nat := 32
/-- slices.Clone[[]hedgerow/store.Entry,hedgerow/store.Entry] -/
abbrev f_slices_Clonestore_Entrystore_Entry : Nat := 33
/-- cmp.Or[int] -/
abbrev f_cmp_Orint : Nat := 34
/-- cmp.Compare[int] -/
abbrev f_cmp_Compareint : Nat := 35
/-- cmp.Compare[string] -/
abbrev f_cmp_Comparestring : Nat := 36
/-- hedgerow/eval.boolean -/
abbrev f_eval_boolean : Nat := 37
/-- (hedgerow/eval.Env).find -/
abbrev f_eval_Env_find : Nat := 38
/-- hedgerow/value.plain -/
abbrev f_value_plain : Nat := 39
/-- hedgerow/value.Name -/
abbrev f_value_Name : Nat := 40
/-- hedgerow/value.Link -/
abbrev f_value_Link : Nat := 41
/-- hedgerow/expr.may -/
abbrev f_expr_may : Nat := 42
/-- slices.IndexFunc[hedgerow/eval.Env,hedgerow/eval.Bind] -/
abbrev f_slices_IndexFunceval_Enveval_Bind : Nat := 43
/-- (*hedgerow/eval.reckoner).leaf -/
abbrev f_eval_reckoner_leaf : Nat := 44
/-- hedgerow/eval.one -/
abbrev f_eval_one : Nat := 45
/-- hedgerow/eval.logic -/
abbrev f_eval_logic : Nat := 46
/-- hedgerow/eval.compared -/
abbrev f_eval_compared : Nat := 47
/-- hedgerow/eval.reckoned -/
abbrev f_eval_reckoned : Nat := 48
/-- hedgerow/event.Right -/
abbrev f_event_Right : Nat := 49
/-- slices.DeleteFunc[[]hedgerow/store.Entry,hedgerow/store.Entry] -/
abbrev f_slices_DeleteFuncstore_Entrystore_Entry : Nat := 50
/-- (*hedgerow/store.Store).Do$1 -/
abbrev f_store_Store_Do_1 : Nat := 51
/-- hedgerow/vector.Knows -/
abbrev f_vector_Knows : Nat := 52
/-- slices.BinarySearchFunc[[]hedgerow/store.Entry,hedgerow/store.Entry,hedgerow/store.Entry] -/
abbrev f_slices_BinarySearchFuncstore_Entrystore_Entrystore_Entry : Nat := 53
/-- slices.Insert[[]hedgerow/store.Entry,hedgerow/store.Entry] -/
abbrev f_slices_Insertstore_Entrystore_Entry : Nat := 54
/-- hedgerow/hedgerowref01.plain -/
abbrev f_hedgerowref01_plain : Nat := 55
/-- hedgerow/hedgerowref01.Link -/
abbrev f_hedgerowref01_Link : Nat := 56
/-- hedgerow/value.names -/
abbrev f_value_names : Nat := 57
/-- hedgerow/value.empty -/
abbrev f_value_empty : Nat := 58
/-- hedgerow/vector.Dot -/
abbrev f_vector_Dot : Nat := 59
/-- hedgerow/event.Change -/
abbrev f_event_Change : Nat := 60
/-- cmp.isNaN[int] -/
abbrev f_cmp_isNaNint : Nat := 61
/-- cmp.isNaN[string] -/
abbrev f_cmp_isNaNstring : Nat := 62
/-- (hedgerow/eval.Env).find$1 -/
abbrev f_eval_Env_find_1 : Nat := 63
/-- hedgerow/value.letter -/
abbrev f_value_letter : Nat := 64
/-- hedgerow/value.inner -/
abbrev f_value_inner : Nat := 65
/-- strings.Split -/
abbrev f_strings_Split : Nat := 66
/-- hedgerow/expr.name -/
abbrev f_expr_name : Nat := 67
/-- hedgerow/eval.number -/
abbrev f_eval_number : Nat := 68
/-- (*hedgerow/eval.reckoner).values -/
abbrev f_eval_reckoner_values : Nat := 69
/-- hedgerow/value.Compare -/
abbrev f_value_Compare : Nat := 70
/-- hedgerow/eval.product -/
abbrev f_eval_product : Nat := 71
/-- hedgerow/vector.Next -/
abbrev f_vector_Next : Nat := 72
/-- hedgerow/vector.Right -/
abbrev f_vector_Right : Nat := 73
/-- hedgerow/event.Of -/
abbrev f_event_Of : Nat := 74
/-- slices.IndexFunc[[]hedgerow/store.Entry,hedgerow/store.Entry] -/
abbrev f_slices_IndexFuncstore_Entrystore_Entry : Nat := 75
abbrev f_slices_overlapsstore_Entry : Nat := 76
/-- slices.rotateRight[hedgerow/store.Entry] -/
abbrev f_slices_rotateRightstore_Entry : Nat := 77
/-- hedgerow/hedgerowref01.Split -/
abbrev f_hedgerowref01_Split : Nat := 78
/-- strings.Join -/
abbrev f_strings_Join : Nat := 79
/-- hedgerow/event.may -/
abbrev f_event_may : Nat := 80
/-- strings.genSplit -/
abbrev f_strings_genSplit : Nat := 81
/-- slices.Contains[[]string,string] -/
abbrev f_slices_Containsstringstring : Nat := 82
/-- hedgerow/lex.Words -/
abbrev f_lex_Words : Nat := 83
/-- (*hedgerow/graph.View).Values -/
abbrev f_graph_View_Values : Nat := 84
/-- slices.rotateLeft[hedgerow/store.Entry] -/
abbrev f_slices_rotateLeftstore_Entry : Nat := 85
/-- (*strings.Builder).Grow -/
abbrev f_strings_Builder_Grow : Nat := 86
/-- (*strings.Builder).WriteString -/
abbrev f_strings_Builder_WriteString : Nat := 87
/-- (*strings.Builder).String -/
abbrev f_strings_Builder_String : Nat := 88
/-- hedgerow/event.kept -/
abbrev f_event_kept : Nat := 89
/-- hedgerow/event.scalar -/
abbrev f_event_scalar : Nat := 90
/-- strings.explode -/
abbrev f_strings_explode : Nat := 91
/-- strings.Count -/
abbrev f_strings_Count : Nat := 92
/-- strings.Index -/
abbrev f_strings_Index : Nat := 93
/-- slices.Index[[]string,string] -/
abbrev f_slices_Indexstringstring : Nat := 94
/-- slices.Clone[[]hedgerow/api.Value,hedgerow/api.Value] -/
abbrev f_slices_Cloneapi_Valueapi_Value : Nat := 95
/-- slices.Reverse[[]hedgerow/store.Entry,hedgerow/store.Entry] -/
abbrev f_slices_Reversestore_Entrystore_Entry : Nat := 96
/-- (*strings.Builder).copyCheck -/
abbrev f_strings_Builder_copyCheck : Nat := 97
/-- (*strings.Builder).grow -/
abbrev f_strings_Builder_grow : Nat := 98
/-- unicode/utf8.RuneCountInString -/
abbrev f_unicode_utf8_RuneCountInString : Nat := 99
/-- unicode/utf8.DecodeRuneInString -/
abbrev f_unicode_utf8_DecodeRuneInString : Nat := 100
abbrev f_bytealg_CountString : Nat := 101
/-- internal/stringslite.Index -/
abbrev f_stringslite_Index : Nat := 102
abbrev f_abi_NoEscape : Nat := 103
abbrev f_bytealg_MakeNoZero : Nat := 104
/-- unicode/utf8.decodeRuneInStringSlow -/
abbrev f_unicode_utf8_decodeRuneInStringSlow : Nat := 105
/-- internal/stringslite.IndexByte -/
abbrev f_stringslite_IndexByte : Nat := 106
abbrev f_bytealg_IndexString : Nat := 107
/-- internal/bytealg.Cutover -/
abbrev f_bytealg_Cutover : Nat := 108
/-- internal/bytealg.IndexRabinKarp[string] -/
abbrev f_bytealg_IndexRabinKarpstring : Nat := 109
abbrev f_bytealg_IndexByteString : Nat := 110
/-- internal/bytealg.hashStr[string] -/
abbrev f_bytealg_hashStrstring : Nat := 111
abbrev f_runtime_boundsError_Error : Nat := 112
abbrev f_runtime_boundsError_RuntimeError : Nat := 113
abbrev f_runtime_errorString_Error : Nat := 114
abbrev f_runtime_errorString_RuntimeError : Nat := 115
abbrev f_runtime_plainError_Error : Nat := 116
abbrev f_runtime_plainError_RuntimeError : Nat := 117
abbrev f_runtime_errorAddressString_Error : Nat := 118
abbrev f_runtime_errorAddressString_RuntimeError : Nat := 119
abbrev f_runtime_TypeAssertionError_Error : Nat := 120
abbrev f_runtime_TypeAssertionError_RuntimeError : Nat := 121
abbrev f_runtime_PanicNilError_Error : Nat := 122
abbrev f_runtime_PanicNilError_RuntimeError : Nat := 123
abbrev f_abi_Type_Align : Nat := 124
abbrev f_runtime_maps_unhashableTypeError_Error : Nat := 125
abbrev f_runtime_maps_unhashableTypeError_RuntimeError : Nat := 126
abbrev f_graph_View_Has : Nat := 127
abbrev f_strings_Builder_Reset : Nat := 128
abbrev f_abi_Kind_String : Nat := 129
abbrev f_varsdoorgosem_cut_varsholdsinitialisersaloneseethemanifestsrowcutvarswordlook11testfilestoo : Nat := 130
abbrev f_varsdoorthelookofgosem_cut_varswentoverthefolderthatthecallernamedastherepositorysrootlook11 : Nat := 131
abbrev f_varsdoorunicode_utf8_acceptRangesislaidbyitsowninitialiserplaindatalook11 : Nat := 132
abbrev f_varsdoorunicode_utf8_firstislaidbyitstextalonepinned1 : Nat := 133
/-- gosem.cut.vars -/
abbrev f_gosem_cut_vars : Nat := 134
def L0_hedgerowlaw22_EvalLaws : ICode :=
 .seq
  (.region [
    ⟨(some 46), none, .bin .lss, [.slot 45, .slot 44], none⟩])
  (.seq
   (.cond (.slot 46)
    (.skip)
    (.exit 0))
   (.seq
    (.block 1
     (.seq
      (.region [
        ⟨(some 47), none, .id, [.slot 45], none⟩,
        ⟨(some 10), none, .id, [.slot 47], none⟩])
      (.seq
       (.region [
         ⟨(some 49), none, .id, [.slot 8], none⟩,
         ⟨(some 50), none, .id, [.slot 10], none⟩,
         ⟨(some 51), none, .call f_eval_Eval, [.slot 49, .slot 50, .val .nilsl, .val .nilptr], none⟩,
         ⟨(some 48), none, .id, [.slot 51], none⟩,
         ⟨(some 52), none, .extract 0, [.slot 48], none⟩,
         ⟨(some 53), none, .extract 1, [.slot 48], none⟩,
         ⟨(some 11), none, .allocL [(.int .i64 0), (.int .i64 0), (.str ⟨#[]⟩)], [], none⟩,
         ⟨none, none, .store 3, [.slot 11, .slot 52], none⟩,
         ⟨(some 12), none, .id, [.slot 53], none⟩])
       (.seq
        (.seq
         (.region [
           ⟨(some 54), none, .id, [.slot 12], none⟩,
           ⟨(some 55), none, .bin .neq, [.slot 54, .val (.int .i64 0)], none⟩])
         (.cond (.slot 55)
          (.seq
           (.region [
             ⟨(some 4), none, .id, [.val (.bool false)], none⟩])
           (.ret))
          (.skip)))
        (.region [
          ⟨(some 56), none, .id, [.slot 9], none⟩,
          ⟨(some 57), none, .load 3 true, [.slot 11], none⟩,
          ⟨(some 58), none, .buildSl 3 1 (.agg [(.int .i64 0), (.int .i64 0), (.str ⟨#[]⟩)]) [0], [.slot 57], none⟩,
          ⟨(some 59), none, .append 3 32, [.slot 56, .slot 58], none⟩,
          ⟨(some 9), none, .id, [.slot 59], none⟩])))))
    (.region [
      ⟨(some 60), none, .bin .add, [.slot 45, .val (.int .i64 1)], none⟩,
      ⟨(some 45), none, .id, [.slot 60], none⟩])))
def b_hedgerowlaw22_EvalLaws : ICode :=
 .seq
  (.region [
    ⟨(some 4), none, .id, [.val (.bool false)], none⟩])
  (.seq
   (.seq
    (.region [
      ⟨(some 13), none, .call f_hedgerowlaw22_fixed, [], none⟩,
      ⟨(some 14), none, .un .not, [.slot 13], none⟩])
    (.cond (.slot 14)
     (.seq
      (.region [
        ⟨(some 4), none, .id, [.val (.bool false)], none⟩])
      (.ret))
     (.skip)))
   (.seq
    (.region [
      ⟨(some 15), none, .build [(.int .i64 0), (.int .i64 0), (.str ⟨#[]⟩)] [], [], none⟩,
      ⟨(some 16), none, .build [(.int .i64 0), (.int .i64 0), (.str ⟨#[]⟩)] [(0, 1)], [.val (.int .i64 1)], none⟩,
      ⟨(some 17), none, .build [(.int .i64 0), (.int .i64 0), (.str ⟨#[]⟩)] [(0, 1), (1, 1)], [.val (.int .i64 1), .val (.int .i64 1)], none⟩,
      ⟨(some 18), none, .buildSl 3 3 (.agg [(.int .i64 0), (.int .i64 0), (.str ⟨#[]⟩)]) [0, 1, 2], [.slot 15, .slot 16, .slot 17], none⟩,
      ⟨(some 5), none, .id, [.slot 18], none⟩])
    (.seq
     (.seq
      (.region [
        ⟨(some 19), none, .id, [.slot 5], none⟩,
        ⟨(some 20), none, .id, [.slot 0], none⟩,
        ⟨(some 21), none, .bin .rem, [.slot 20, .val (.int .u8 3)], none⟩,
        ⟨(some 22), none, .ixaddr 3, [.slot 19, .slot 21], none⟩,
        ⟨(some 23), none, .load 3 true, [.slot 22], (some (.el))⟩,
        ⟨(some 24), none, .id, [.slot 5], none⟩,
        ⟨(some 25), none, .id, [.slot 1], none⟩,
        ⟨(some 26), none, .bin .rem, [.slot 25, .val (.int .u8 3)], none⟩,
        ⟨(some 27), none, .ixaddr 3, [.slot 24, .slot 26], none⟩,
        ⟨(some 28), none, .load 3 true, [.slot 27], (some (.el))⟩,
        ⟨(some 6), none, .allocK 10 [(.int .i64 0), (.int .i64 0), (.str ⟨#[]⟩)], [], none⟩,
        ⟨(some 7), none, .allocK 11 [(.int .i64 0), (.int .i64 0), (.str ⟨#[]⟩)], [], none⟩,
        ⟨none, none, .store 3, [.slot 6, .slot 23], (some (.loc 6))⟩,
        ⟨none, none, .store 3, [.slot 7, .slot 28], (some (.loc 7))⟩])
      (.bump 14))
     (.seq
      (.region [
        ⟨(some 29), none, .load 3 true, [.slot 6], none⟩,
        ⟨(some 30), none, .build [(.int .i64 0), (.int .i64 0), (.int .i64 0), (.str ⟨#[]⟩), (.str ⟨#[]⟩), (.str ⟨#[]⟩), (.int .i64 0), (.int .i64 0)] [(0, 1), (1, 3)], [.val (.int .i64 1), .slot 29], none⟩,
        ⟨(some 31), none, .load 3 true, [.slot 7], none⟩,
        ⟨(some 32), none, .build [(.int .i64 0), (.int .i64 0), (.int .i64 0), (.str ⟨#[]⟩), (.str ⟨#[]⟩), (.str ⟨#[]⟩), (.int .i64 0), (.int .i64 0)] [(0, 1), (1, 3)], [.val (.int .i64 1), .slot 31], none⟩,
        ⟨(some 33), none, .build [(.int .i64 0), (.int .i64 0), (.int .i64 0), (.str ⟨#[]⟩), (.str ⟨#[]⟩), (.str ⟨#[]⟩), (.int .i64 0), (.int .i64 0)] [(0, 1), (6, 1)], [.val (.int .i64 5), .val (.int .i64 0)], none⟩,
        ⟨(some 34), none, .build [(.int .i64 0), (.int .i64 0), (.int .i64 0), (.str ⟨#[]⟩), (.str ⟨#[]⟩), (.str ⟨#[]⟩), (.int .i64 0), (.int .i64 0)] [(0, 1), (6, 1)], [.val (.int .i64 5), .val (.int .i64 1)], none⟩,
        ⟨(some 35), none, .build [(.int .i64 0), (.int .i64 0), (.int .i64 0), (.str ⟨#[]⟩), (.str ⟨#[]⟩), (.str ⟨#[]⟩), (.int .i64 0), (.int .i64 0)] [(0, 1), (6, 1)], [.val (.int .i64 5), .val (.int .i64 2)], none⟩,
        ⟨(some 36), none, .build [(.int .i64 0), (.int .i64 0), (.int .i64 0), (.str ⟨#[]⟩), (.str ⟨#[]⟩), (.str ⟨#[]⟩), (.int .i64 0), (.int .i64 0)] [(0, 1), (6, 1), (7, 1)], [.val (.int .i64 9), .val (.int .i64 0), .val (.int .i64 1)], none⟩,
        ⟨(some 37), none, .build [(.int .i64 0), (.int .i64 0), (.int .i64 0), (.str ⟨#[]⟩), (.str ⟨#[]⟩), (.str ⟨#[]⟩), (.int .i64 0), (.int .i64 0)] [(0, 1), (6, 1), (7, 1)], [.val (.int .i64 8), .val (.int .i64 2), .val (.int .i64 3)], none⟩,
        ⟨(some 38), none, .build [(.int .i64 0), (.int .i64 0), (.int .i64 0), (.str ⟨#[]⟩), (.str ⟨#[]⟩), (.str ⟨#[]⟩), (.int .i64 0), (.int .i64 0)] [(0, 1), (6, 1)], [.val (.int .i64 5), .val (.int .i64 6)], none⟩,
        ⟨(some 39), none, .build [(.int .i64 0), (.int .i64 0), (.int .i64 0), (.str ⟨#[]⟩), (.str ⟨#[]⟩), (.str ⟨#[]⟩), (.int .i64 0), (.int .i64 0)] [(0, 1), (6, 1), (7, 1)], [.val (.int .i64 10), .val (.int .i64 0), .val (.int .i64 1)], none⟩,
        ⟨(some 40), none, .build [(.int .i64 0), (.int .i64 0), (.int .i64 0), (.str ⟨#[]⟩), (.str ⟨#[]⟩), (.str ⟨#[]⟩), (.int .i64 0), (.int .i64 0)] [(0, 1), (6, 1), (7, 1)], [.val (.int .i64 11), .val (.int .i64 0), .val (.int .i64 1)], none⟩,
        ⟨(some 41), none, .build [(.int .i64 0), (.int .i64 0), (.int .i64 0), (.str ⟨#[]⟩), (.str ⟨#[]⟩), (.str ⟨#[]⟩), (.int .i64 0), (.int .i64 0)] [(0, 1), (6, 1)], [.val (.int .i64 5), .val (.int .i64 9)], none⟩,
        ⟨(some 42), none, .buildSl 8 11 (.agg [(.int .i64 0), (.int .i64 0), (.int .i64 0), (.str ⟨#[]⟩), (.str ⟨#[]⟩), (.str ⟨#[]⟩), (.int .i64 0), (.int .i64 0)]) [0, 1, 2, 3, 4, 5, 6, 7, 8, 9, 10], [.slot 30, .slot 32, .slot 33, .slot 34, .slot 35, .slot 36, .slot 37, .slot 38, .slot 39, .slot 40, .slot 41], none⟩,
        ⟨(some 8), none, .id, [.slot 42], none⟩])
      (.seq
       (.region [
         ⟨(some 9), none, .id, [.val .nilsl], none⟩])
       (.seq
        (.seq
         (.region [
           ⟨(some 43), none, .id, [.slot 8], none⟩,
           ⟨(some 44), none, .lensl, [.slot 43], none⟩,
           ⟨(some 45), none, .id, [.val (.int .i64 0)], none⟩])
         (.block 0
          (.loop L0_hedgerowlaw22_EvalLaws)))
        (.seq
         (.region [
           ⟨(some 61), none, .id, [.slot 9], none⟩,
           ⟨(some 62), none, .ixaddr 3, [.slot 61, .val (.int .i64 4)], none⟩,
           ⟨(some 63), none, .load 3 true, [.slot 62], (some (.el))⟩,
           ⟨(some 64), none, .load 3 true, [.slot 6], (some (.loc 6))⟩,
           ⟨(some 65), none, .eqv false [(.int .i64), (.int .i64), .str], [.slot 63, .slot 64], none⟩,
           ⟨(some 66), none, .id, [.slot 65], none⟩,
           ⟨(some 67), (some (66, true)), .id, [.slot 9], none⟩,
           ⟨(some 68), (some (66, true)), .ixaddr 3, [.slot 67, .val (.int .i64 5)], none⟩,
           ⟨(some 69), (some (66, true)), .load 3 true, [.slot 68], (some (.el))⟩,
           ⟨(some 70), (some (66, true)), .id, [.slot 9], none⟩,
           ⟨(some 71), (some (66, true)), .ixaddr 3, [.slot 70, .val (.int .i64 7)], none⟩,
           ⟨(some 72), (some (66, true)), .load 3 true, [.slot 71], (some (.el))⟩,
           ⟨(some 73), (some (66, true)), .eqv false [(.int .i64), (.int .i64), .str], [.slot 69, .slot 72], none⟩,
           ⟨(some 74), none, .pick, [.slot 66, .slot 73, .val (.bool false)], none⟩,
           ⟨(some 75), none, .id, [.slot 74], none⟩,
           ⟨(some 76), (some (75, true)), .id, [.slot 9], none⟩,
           ⟨(some 77), (some (75, true)), .ixaddr 3, [.slot 76, .val (.int .i64 8)], none⟩,
           ⟨(some 78), (some (75, true)), .load 3 true, [.slot 77], (some (.el))⟩,
           ⟨(some 79), (some (75, true)), .id, [.slot 9], none⟩,
           ⟨(some 80), (some (75, true)), .ixaddr 3, [.slot 79, .val (.int .i64 10)], none⟩,
           ⟨(some 81), (some (75, true)), .load 3 true, [.slot 80], (some (.el))⟩,
           ⟨(some 82), (some (75, true)), .eqv false [(.int .i64), (.int .i64), .str], [.slot 78, .slot 81], none⟩,
           ⟨(some 83), none, .pick, [.slot 75, .slot 82, .val (.bool false)], none⟩,
           ⟨(some 4), none, .id, [.slot 83], none⟩])
         (.ret))))))))
def F_hedgerowlaw22_EvalLaws : IFun := ⟨84, [.slot 4], b_hedgerowlaw22_EvalLaws, 3, 0⟩
theorem c_hedgerowlaw22_EvalLaws : cFun Tryd.prog [1048582, 1048583, 1048587, 2097157, 2097158] 0 f_hedgerowlaw22_EvalLaws = some F_hedgerowlaw22_EvalLaws := by kernel_rfl

def b_hedgerowlaw22_fixed : ICode :=
 .seq
  (.region [
    ⟨(some 0), none, .id, [.val (.bool false)], none⟩])
  (.seq
   (.region [
     ⟨(some 10), none, .build [(.int .i64 0), (.int .i64 0), (.int .i64 0), (.str ⟨#[]⟩), (.str ⟨#[]⟩), (.str ⟨#[]⟩), (.int .i64 0), (.int .i64 0)] [(0, 1)], [.val (.int .i64 1)], none⟩,
     ⟨(some 1), none, .allocL [(.int .i64 0), (.int .i64 0), (.int .i64 0), (.str ⟨#[]⟩), (.str ⟨#[]⟩), (.str ⟨#[]⟩), (.int .i64 0), (.int .i64 0)], [], none⟩,
     ⟨none, none, .store 8, [.slot 1, .slot 10], none⟩])
   (.seq
    (.region [
      ⟨(some 11), none, .load 8 true, [.slot 1], none⟩,
      ⟨(some 12), none, .build [(.int .i64 0), (.int .i64 0), (.int .i64 0), (.str ⟨#[]⟩), (.str ⟨#[]⟩), (.str ⟨#[]⟩), (.int .i64 0), (.int .i64 0)] [(0, 1), (6, 1), (7, 1)], [.val (.int .i64 10), .val (.int .i64 0), .val (.int .i64 0)], none⟩,
      ⟨(some 13), none, .build [(.int .i64 0), (.int .i64 0), (.int .i64 0), (.str ⟨#[]⟩), (.str ⟨#[]⟩), (.str ⟨#[]⟩), (.int .i64 0), (.int .i64 0)] [(0, 1), (6, 1)], [.val (.int .i64 5), .val (.int .i64 0)], none⟩,
      ⟨(some 14), none, .build [(.int .i64 0), (.int .i64 0), (.str ⟨#[]⟩)] [(0, 1), (1, 1)], [.val (.int .i64 1), .val (.int .i64 1)], none⟩,
      ⟨(some 15), none, .build [(.int .i64 0), (.int .i64 0), (.int .i64 0), (.str ⟨#[]⟩), (.str ⟨#[]⟩), (.str ⟨#[]⟩), (.int .i64 0), (.int .i64 0)] [(0, 1), (1, 3)], [.val (.int .i64 1), .slot 14], none⟩,
      ⟨(some 16), none, .build [(.int .i64 0), (.int .i64 0), (.int .i64 0), (.str ⟨#[]⟩), (.str ⟨#[]⟩), (.str ⟨#[]⟩), (.int .i64 0), (.int .i64 0)] [(0, 1), (6, 1), (7, 1)], [.val (.int .i64 8), .val (.int .i64 2), .val (.int .i64 3)], none⟩,
      ⟨(some 17), none, .build [(.int .i64 0), (.int .i64 0), (.str ⟨#[]⟩)] [(0, 1), (1, 1)], [.val (.int .i64 2), .val (.int .i64 1099511627776)], none⟩,
      ⟨(some 18), none, .build [(.int .i64 0), (.int .i64 0), (.int .i64 0), (.str ⟨#[]⟩), (.str ⟨#[]⟩), (.str ⟨#[]⟩), (.int .i64 0), (.int .i64 0)] [(0, 1), (1, 3)], [.val (.int .i64 1), .slot 17], none⟩,
      ⟨(some 19), none, .build [(.int .i64 0), (.int .i64 0), (.int .i64 0), (.str ⟨#[]⟩), (.str ⟨#[]⟩), (.str ⟨#[]⟩), (.int .i64 0), (.int .i64 0)] [(0, 1), (6, 1), (7, 1)], [.val (.int .i64 18), .val (.int .i64 5), .val (.int .i64 5)], none⟩,
      ⟨(some 20), none, .buildSl 8 7 (.agg [(.int .i64 0), (.int .i64 0), (.int .i64 0), (.str ⟨#[]⟩), (.str ⟨#[]⟩), (.str ⟨#[]⟩), (.int .i64 0), (.int .i64 0)]) [0, 1, 2, 3, 4, 5, 6], [.slot 11, .slot 12, .slot 13, .slot 15, .slot 16, .slot 18, .slot 19], none⟩,
      ⟨(some 2), none, .id, [.slot 20], none⟩])
    (.seq
     (.region [
       ⟨(some 22), none, .id, [.slot 2], none⟩,
       ⟨(some 23), none, .call f_eval_Eval, [.slot 22, .val (.int .i64 1), .val .nilsl, .val .nilptr], none⟩,
       ⟨(some 21), none, .id, [.slot 23], none⟩,
       ⟨(some 24), none, .extract 0, [.slot 21], none⟩,
       ⟨(some 25), none, .extract 1, [.slot 21], none⟩,
       ⟨(some 3), none, .allocL [(.int .i64 0), (.int .i64 0), (.str ⟨#[]⟩)], [], none⟩,
       ⟨none, none, .store 3, [.slot 3, .slot 24], none⟩,
       ⟨(some 4), none, .id, [.slot 25], none⟩])
     (.seq
      (.region [
        ⟨(some 27), none, .id, [.slot 2], none⟩,
        ⟨(some 28), none, .call f_eval_Eval, [.slot 27, .val (.int .i64 6), .val .nilsl, .val .nilptr], none⟩,
        ⟨(some 26), none, .id, [.slot 28], none⟩,
        ⟨(some 29), none, .extract 0, [.slot 26], none⟩,
        ⟨(some 30), none, .extract 1, [.slot 26], none⟩,
        ⟨(some 5), none, .allocL [(.int .i64 0), (.int .i64 0), (.str ⟨#[]⟩)], [], none⟩,
        ⟨none, none, .store 3, [.slot 5, .slot 29], none⟩,
        ⟨(some 6), none, .id, [.slot 30], none⟩])
      (.seq
       (.region [
         ⟨(some 32), none, .id, [.slot 2], none⟩,
         ⟨(some 33), none, .call f_eval_Eval, [.slot 32, .val (.int .i64 7), .val .nilsl, .val .nilptr], none⟩,
         ⟨(some 31), none, .id, [.slot 33], none⟩,
         ⟨(some 34), none, .extract 0, [.slot 31], none⟩,
         ⟨(some 35), none, .extract 1, [.slot 31], none⟩,
         ⟨(some 7), none, .allocL [(.int .i64 0), (.int .i64 0), (.str ⟨#[]⟩)], [], none⟩,
         ⟨none, none, .store 3, [.slot 7, .slot 34], none⟩,
         ⟨(some 8), none, .id, [.slot 35], none⟩])
       (.seq
        (.region [
          ⟨(some 36), none, .build [(.int .i64 0), (.int .i64 0), (.str ⟨#[]⟩)] [(0, 1), (2, 1)], [.val (.int .i64 4), .val (.str ⟨#[97]⟩)], none⟩,
          ⟨(some 37), none, .build [(.str ⟨#[]⟩), (.int .i64 0), (.int .i64 0), (.str ⟨#[]⟩)] [(0, 1), (1, 3)], [.val (.str ⟨#[110]⟩), .slot 36], none⟩,
          ⟨(some 38), none, .buildSl 4 1 (.agg [(.str ⟨#[]⟩), (.int .i64 0), (.int .i64 0), (.str ⟨#[]⟩)]) [0], [.slot 37], none⟩,
          ⟨(some 9), none, .id, [.slot 38], none⟩])
        (.seq
         (.region [
           ⟨(some 39), none, .load 3 true, [.slot 3], none⟩,
           ⟨(some 40), none, .build [(.int .i64 0), (.int .i64 0), (.str ⟨#[]⟩)] [], [], none⟩,
           ⟨(some 41), none, .eqv false [(.int .i64), (.int .i64), .str], [.slot 39, .slot 40], none⟩,
           ⟨(some 42), none, .id, [.slot 41], none⟩,
           ⟨(some 43), (some (42, true)), .id, [.slot 4], none⟩,
           ⟨(some 44), (some (42, true)), .bin .eql, [.slot 43, .val (.int .i64 0)], none⟩,
           ⟨(some 45), none, .pick, [.slot 42, .slot 44, .val (.bool false)], none⟩,
           ⟨(some 46), none, .id, [.slot 45], none⟩,
           ⟨(some 47), (some (46, true)), .id, [.slot 2], none⟩,
           ⟨(some 48), (some (46, true)), .call f_eval_True, [.slot 47, .val (.int .i64 4), .val .nilsl, .val .nilptr], none⟩,
           ⟨(some 49), none, .pick, [.slot 46, .slot 48, .val (.bool false)], none⟩,
           ⟨(some 50), none, .id, [.slot 49], none⟩,
           ⟨(some 51), (some (50, true)), .id, [.slot 2], none⟩,
           ⟨(some 52), (some (50, true)), .call f_eval_True, [.slot 51, .val (.int .i64 1), .val .nilsl, .val .nilptr], none⟩,
           ⟨(some 53), (some (50, true)), .un .not, [.slot 52], none⟩,
           ⟨(some 54), none, .pick, [.slot 50, .slot 53, .val (.bool false)], none⟩,
           ⟨(some 55), none, .id, [.slot 54], none⟩,
           ⟨(some 56), (some (55, true)), .faddr 1, [.slot 5], none⟩,
           ⟨(some 57), (some (55, true)), .load 1 false, [.slot 56], none⟩,
           ⟨(some 58), (some (55, true)), .bin .eql, [.slot 57, .val (.int .i64 1099511627776)], none⟩,
           ⟨(some 59), none, .pick, [.slot 55, .slot 58, .val (.bool false)], none⟩,
           ⟨(some 60), none, .id, [.slot 59], none⟩,
           ⟨(some 61), (some (60, true)), .id, [.slot 8], none⟩,
           ⟨(some 62), (some (60, true)), .bin .eql, [.slot 61, .val (.int .i64 1)], none⟩,
           ⟨(some 63), none, .pick, [.slot 60, .slot 62, .val (.bool false)], none⟩,
           ⟨(some 64), none, .id, [.slot 63], none⟩,
           ⟨(some 65), (some (64, true)), .id, [.slot 9], none⟩,
           ⟨(some 66), (some (64, true)), .call f_eval_Env_Has, [.slot 65, .val (.str ⟨#[110]⟩)], none⟩,
           ⟨(some 67), none, .pick, [.slot 64, .slot 66, .val (.bool false)], none⟩,
           ⟨(some 68), none, .id, [.slot 67], none⟩,
           ⟨(some 69), (some (68, true)), .id, [.slot 9], none⟩,
           ⟨(some 70), (some (68, true)), .call f_eval_Env_Has, [.slot 69, .val (.str ⟨#[109]⟩)], none⟩,
           ⟨(some 71), (some (68, true)), .un .not, [.slot 70], none⟩,
           ⟨(some 72), none, .pick, [.slot 68, .slot 71, .val (.bool false)], none⟩,
           ⟨(some 73), none, .id, [.slot 72], none⟩,
           ⟨(some 74), (some (73, true)), .id, [.slot 9], none⟩,
           ⟨(some 75), (some (73, true)), .call f_eval_Env_Get, [.slot 74, .val (.str ⟨#[110]⟩)], none⟩,
           ⟨(some 76), (some (73, true)), .field 2 1 false, [.slot 75], none⟩,
           ⟨(some 77), (some (73, true)), .bin .eql, [.slot 76, .val (.str ⟨#[97]⟩)], none⟩,
           ⟨(some 78), none, .pick, [.slot 73, .slot 77, .val (.bool false)], none⟩,
           ⟨(some 0), none, .id, [.slot 78], none⟩])
         (.ret))))))))
def F_hedgerowlaw22_fixed : IFun := ⟨79, [.slot 0], b_hedgerowlaw22_fixed, 3, 2⟩
theorem c_hedgerowlaw22_fixed : cFun Tryd.prog [1048577, 1048579, 1048581, 1048583, 2097158] 2 f_hedgerowlaw22_fixed = some F_hedgerowlaw22_fixed := by kernel_rfl

def L0_eval_Eval : ICode :=
 .seq
  (.region [
    ⟨(some 44), none, .bin .lss, [.slot 43, .slot 42], none⟩])
  (.seq
   (.cond (.slot 44)
    (.skip)
    (.exit 0))
   (.seq
    (.block 1
     (.seq
      (.region [
        ⟨(some 45), none, .ixaddr 8, [.slot 41, .slot 43], none⟩,
        ⟨(some 46), none, .load 8 true, [.slot 45], none⟩,
        ⟨(some 13), none, .allocL [(.int .i64 0), (.int .i64 0), (.int .i64 0), (.str ⟨#[]⟩), (.str ⟨#[]⟩), (.str ⟨#[]⟩), (.int .i64 0), (.int .i64 0)], [], none⟩,
        ⟨none, none, .store 8, [.slot 13, .slot 46], none⟩])
      (.region [
        ⟨(some 47), none, .id, [.slot 11], none⟩,
        ⟨(some 48), none, .id, [.slot 11], none⟩,
        ⟨(some 49), none, .nilchk, [.slot 48], none⟩,
        ⟨(some 50), none, .faddr 3, [.slot 49], none⟩,
        ⟨(some 51), none, .load 1 false, [.slot 50], (some (.heap))⟩,
        ⟨(some 52), none, .id, [.slot 11], none⟩,
        ⟨(some 53), none, .load 8 true, [.slot 13], (some (.loc 13))⟩,
        ⟨(some 54), none, .callP f_eval_reckoner_at, [.slot 52, .slot 53], none⟩,
        ⟨(some 55), none, .buildSl 3 1 (.agg [(.int .i64 0), (.int .i64 0), (.str ⟨#[]⟩)]) [0], [.slot 54], none⟩,
        ⟨(some 56), none, .append 3 32, [.slot 51, .slot 55], none⟩,
        ⟨(some 57), none, .nilchk, [.slot 47], none⟩,
        ⟨(some 58), none, .faddr 3, [.slot 57], none⟩,
        ⟨none, none, .store 1, [.slot 58, .slot 56], (some (.heap))⟩])))
    (.region [
      ⟨(some 59), none, .bin .add, [.slot 43, .val (.int .i64 1)], none⟩,
      ⟨(some 43), none, .id, [.slot 59], none⟩])))
def b_eval_Eval : ICode :=
 .seq
  (.region [
    ⟨(some 8), none, .allocL [(.int .i64 0), (.int .i64 0), (.str ⟨#[]⟩)], [], none⟩,
    ⟨(some 9), none, .id, [.val (.int .i64 0)], none⟩])
  (.seq
   (.region [
     ⟨(some 10), none, .id, [.val (.func 19 [] [])], none⟩])
   (.seq
    (.seq
     (.region [
       ⟨(some 14), none, .id, [.slot 1], none⟩,
       ⟨(some 15), none, .bin .lss, [.slot 14, .val (.int .i64 0)], none⟩,
       ⟨(some 16), none, .id, [.slot 15], none⟩,
       ⟨(some 17), (some (16, false)), .id, [.slot 1], none⟩,
       ⟨(some 18), (some (16, false)), .id, [.slot 0], none⟩,
       ⟨(some 19), (some (16, false)), .lensl, [.slot 18], none⟩,
       ⟨(some 20), (some (16, false)), .bin .geq, [.slot 17, .slot 19], none⟩,
       ⟨(some 21), none, .pick, [.slot 16, .val (.bool true), .slot 20], none⟩,
       ⟨(some 22), none, .id, [.slot 21], none⟩,
       ⟨(some 23), (some (22, false)), .id, [.slot 0], none⟩,
       ⟨(some 24), (some (22, false)), .call f_expr_Right, [.slot 23], none⟩,
       ⟨(some 25), (some (22, false)), .bin .neq, [.slot 24, .val (.int .i64 0)], none⟩,
       ⟨(some 26), none, .pick, [.slot 22, .val (.bool true), .slot 25], none⟩,
       ⟨(some 27), none, .id, [.slot 26], none⟩,
       ⟨(some 28), (some (27, false)), .id, [.slot 2], none⟩,
       ⟨(some 29), (some (27, false)), .id, [.slot 10], none⟩,
       ⟨(some 30), (some (27, false)), .call f_slices_ContainsFunceval_Enveval_Bind, [.slot 28, .slot 29], none⟩,
       ⟨(some 31), none, .pick, [.slot 27, .val (.bool true), .slot 30], none⟩])
     (.cond (.slot 31)
      (.seq
       (.region [
         ⟨(some 32), none, .build [(.int .i64 0), (.int .i64 0), (.str ⟨#[]⟩)] [], [], none⟩,
         ⟨none, none, .store 3, [.slot 8, .slot 32], none⟩,
         ⟨(some 9), none, .id, [.val (.int .i64 1)], none⟩])
       (.ret))
      (.skip)))
    (.seq
     (.region [
       ⟨(some 33), none, .id, [.slot 0], none⟩,
       ⟨(some 34), none, .id, [.slot 2], none⟩,
       ⟨(some 35), none, .id, [.slot 3], none⟩,
       ⟨(some 36), none, .build [.nilsl, .nilsl, .nilptr, .nilsl] [(0, 1), (1, 1), (2, 1)], [.slot 33, .slot 34, .slot 35], none⟩,
       ⟨(some 37), none, .boxH, [.slot 36], none⟩,
       ⟨(some 11), none, .id, [.slot 37], none⟩])
     (.seq
      (.seq
       (.region [
         ⟨(some 38), none, .id, [.slot 0], none⟩,
         ⟨(some 39), none, .id, [.slot 1], none⟩,
         ⟨(some 40), none, .bin .add, [.slot 39, .val (.int .i64 1)], none⟩,
         ⟨(some 41), none, .slsl 8 false true false, [.slot 38, .slot 40], none⟩,
         ⟨(some 42), none, .lensl, [.slot 41], none⟩,
         ⟨(some 43), none, .id, [.val (.int .i64 0)], none⟩])
       (.block 0
        (.loop L0_eval_Eval)))
      (.seq
       (.region [
         ⟨(some 60), none, .id, [.slot 11], none⟩,
         ⟨(some 61), none, .nilchk, [.slot 60], none⟩,
         ⟨(some 62), none, .faddr 3, [.slot 61], none⟩,
         ⟨(some 63), none, .load 1 false, [.slot 62], none⟩,
         ⟨(some 64), none, .id, [.slot 1], none⟩,
         ⟨(some 65), none, .ixaddr 3, [.slot 63, .slot 64], none⟩,
         ⟨(some 66), none, .load 3 true, [.slot 65], none⟩,
         ⟨none, none, .store 3, [.slot 8, .slot 66], none⟩,
         ⟨(some 9), none, .id, [.val (.int .i64 0)], none⟩])
       (.ret))))))
def F_eval_Eval : IFun := ⟨67, [.cell 8 3 true, .slot 9], b_eval_Eval, 3, 1⟩
theorem c_eval_Eval : cFun Tryd.prog [37, 1048584, 1048589, 2097173, 2097175] 1 f_eval_Eval = some F_eval_Eval := by kernel_rfl

def b_eval_True : ICode :=
 .seq
  (.region [
    ⟨(some 8), none, .id, [.val (.bool false)], none⟩])
  (.seq
   (.region [
     ⟨(some 12), none, .id, [.slot 0], none⟩,
     ⟨(some 13), none, .id, [.slot 1], none⟩,
     ⟨(some 14), none, .id, [.slot 2], none⟩,
     ⟨(some 15), none, .id, [.slot 3], none⟩,
     ⟨(some 16), none, .call f_eval_Eval, [.slot 12, .slot 13, .slot 14, .slot 15], none⟩,
     ⟨(some 11), none, .id, [.slot 16], none⟩,
     ⟨(some 17), none, .extract 0, [.slot 11], none⟩,
     ⟨(some 18), none, .extract 1, [.slot 11], none⟩,
     ⟨(some 9), none, .allocL [(.int .i64 0), (.int .i64 0), (.str ⟨#[]⟩)], [], none⟩,
     ⟨none, none, .store 3, [.slot 9, .slot 17], none⟩,
     ⟨(some 10), none, .id, [.slot 18], none⟩])
   (.seq
    (.region [
      ⟨(some 19), none, .id, [.slot 10], none⟩,
      ⟨(some 20), none, .bin .eql, [.slot 19, .val (.int .i64 0)], none⟩,
      ⟨(some 21), none, .id, [.slot 20], none⟩,
      ⟨(some 22), (some (21, true)), .load 3 true, [.slot 9], (some (.loc 9))⟩,
      ⟨(some 23), (some (21, true)), .callP f_eval_boolean, [.val (.bool true)], none⟩,
      ⟨(some 24), (some (21, true)), .eqv false [(.int .i64), (.int .i64), .str], [.slot 22, .slot 23], none⟩,
      ⟨(some 25), none, .pick, [.slot 21, .slot 24, .val (.bool false)], none⟩,
      ⟨(some 8), none, .id, [.slot 25], none⟩])
    (.ret)))
def F_eval_True : IFun := ⟨26, [.slot 8], b_eval_True, 3, 0⟩
theorem c_eval_True : cFun Tryd.prog [1048585, 2097158, 2097189] 0 f_eval_True = some F_eval_True := by kernel_rfl

def b_eval_Env_Has : ICode :=
 .seq
  (.region [
    ⟨(some 4), none, .id, [.val (.bool false)], none⟩])
  (.seq
   (.region [
     ⟨(some 5), none, .id, [.slot 0], none⟩,
     ⟨(some 6), none, .id, [.slot 1], none⟩,
     ⟨(some 7), none, .call f_eval_Env_find, [.slot 5, .slot 6], none⟩,
     ⟨(some 8), none, .bin .geq, [.slot 7, .val (.int .i64 0)], none⟩,
     ⟨(some 4), none, .id, [.slot 8], none⟩])
   (.ret))
def F_eval_Env_Has : IFun := ⟨9, [.slot 4], b_eval_Env_Has, 3, 0⟩
theorem c_eval_Env_Has : cFun Tryd.prog [] 0 f_eval_Env_Has = some F_eval_Env_Has := by kernel_rfl

def b_eval_Env_Get : ICode :=
 .seq
  (.region [
    ⟨(some 4), none, .allocL [(.int .i64 0), (.int .i64 0), (.str ⟨#[]⟩)], [], none⟩])
  (.seq
   (.seq
    (.region [
      ⟨(some 6), none, .id, [.slot 0], none⟩,
      ⟨(some 7), none, .id, [.slot 1], none⟩,
      ⟨(some 8), none, .call f_eval_Env_find, [.slot 6, .slot 7], none⟩,
      ⟨(some 5), none, .id, [.slot 8], none⟩])
    (.seq
     (.region [
       ⟨(some 9), none, .id, [.slot 5], none⟩,
       ⟨(some 10), none, .bin .geq, [.slot 9, .val (.int .i64 0)], none⟩])
     (.cond (.slot 10)
      (.seq
       (.region [
         ⟨(some 11), none, .id, [.slot 0], none⟩,
         ⟨(some 12), none, .id, [.slot 5], none⟩,
         ⟨(some 13), none, .ixaddr 4, [.slot 11, .slot 12], none⟩,
         ⟨(some 14), none, .faddr 1, [.slot 13], none⟩,
         ⟨(some 15), none, .load 3 true, [.slot 14], none⟩,
         ⟨none, none, .store 3, [.slot 4, .slot 15], none⟩])
       (.ret))
      (.skip))))
   (.seq
    (.region [
      ⟨(some 16), none, .build [(.int .i64 0), (.int .i64 0), (.str ⟨#[]⟩)] [], [], none⟩,
      ⟨none, none, .store 3, [.slot 4, .slot 16], none⟩])
    (.ret)))
def F_eval_Env_Get : IFun := ⟨17, [.cell 4 3 true], b_eval_Env_Get, 3, 0⟩
theorem c_eval_Env_Get : cFun Tryd.prog [1048580] 0 f_eval_Env_Get = some F_eval_Env_Get := by kernel_rfl

def b_eval_Eval_1 : ICode :=
 .seq
  (.region [
    ⟨(some 1), none, .boxL, [.slot 0], none⟩,
    ⟨(some 2), none, .id, [.val (.bool false)], none⟩])
  (.seq
   (.region [
     ⟨(some 3), none, .faddr 1, [.slot 1], none⟩,
     ⟨(some 4), none, .load 3 true, [.slot 3], none⟩,
     ⟨(some 5), none, .call f_value_Right, [.slot 4], none⟩,
     ⟨(some 6), none, .un .not, [.slot 5], none⟩,
     ⟨(some 2), none, .id, [.slot 6], none⟩])
   (.ret))
def F_eval_Eval_1 : IFun := ⟨7, [.slot 2], b_eval_Eval_1, 3, 0⟩
theorem c_eval_Eval_1 : cFun Tryd.prog [1048577, 2097172] 0 f_eval_Eval_1 = some F_eval_Eval_1 := by kernel_rfl

def b_value_Right : ICode :=
 .seq
  (.region [
    ⟨(some 1), none, .boxL, [.slot 0], none⟩,
    ⟨(some 2), none, .id, [.val (.bool false)], none⟩])
  (.seq
   (.seq
    (.region [
      ⟨(some 5), none, .faddr 0, [.slot 1], none⟩,
      ⟨(some 6), none, .load 1 false, [.slot 5], none⟩])
    (.block 0
     (.seq
      (.region [
        ⟨(some 8), none, .bin .eql, [.slot 6, .val (.int .i64 0)], none⟩,
        ⟨(some 7), none, .id, [.slot 8], none⟩])
      (.cond (.slot 7)
       (.seq
        (.region [
          ⟨(some 9), none, .faddr 1, [.slot 1], none⟩,
          ⟨(some 10), none, .load 1 false, [.slot 9], none⟩,
          ⟨(some 11), none, .bin .eql, [.slot 10, .val (.int .i64 0)], none⟩,
          ⟨(some 12), none, .id, [.slot 11], none⟩,
          ⟨(some 13), (some (12, true)), .faddr 2, [.slot 1], none⟩,
          ⟨(some 14), (some (12, true)), .load 1 false, [.slot 13], none⟩,
          ⟨(some 15), (some (12, true)), .bin .eql, [.slot 14, .val (.str ⟨#[]⟩)], none⟩,
          ⟨(some 16), none, .pick, [.slot 12, .slot 15, .val (.bool false)], none⟩,
          ⟨(some 2), none, .id, [.slot 16], none⟩])
        (.ret))
       (.seq
        (.region [
          ⟨(some 18), none, .bin .eql, [.slot 6, .val (.int .i64 1)], none⟩,
          ⟨(some 17), none, .id, [.slot 18], none⟩])
        (.cond (.slot 17)
         (.seq
          (.region [
            ⟨(some 19), none, .faddr 1, [.slot 1], none⟩,
            ⟨(some 20), none, .load 1 false, [.slot 19], none⟩,
            ⟨(some 21), none, .bin .andNot, [.slot 20, .val (.int .i64 1)], none⟩,
            ⟨(some 22), none, .bin .eql, [.slot 21, .val (.int .i64 0)], none⟩,
            ⟨(some 23), none, .id, [.slot 22], none⟩,
            ⟨(some 24), (some (23, true)), .faddr 2, [.slot 1], none⟩,
            ⟨(some 25), (some (23, true)), .load 1 false, [.slot 24], none⟩,
            ⟨(some 26), (some (23, true)), .bin .eql, [.slot 25, .val (.str ⟨#[]⟩)], none⟩,
            ⟨(some 27), none, .pick, [.slot 23, .slot 26, .val (.bool false)], none⟩,
            ⟨(some 2), none, .id, [.slot 27], none⟩])
          (.ret))
         (.seq
          (.region [
            ⟨(some 29), none, .bin .eql, [.slot 6, .val (.int .i64 2)], none⟩,
            ⟨(some 28), none, .id, [.slot 29], none⟩])
          (.cond (.slot 28)
           (.seq
            (.region [
              ⟨(some 30), none, .faddr 1, [.slot 1], none⟩,
              ⟨(some 31), none, .load 1 false, [.slot 30], none⟩,
              ⟨(some 32), none, .bin .geq, [.slot 31, .val (.int .i64 (-1099511627776))], none⟩,
              ⟨(some 33), none, .id, [.slot 32], none⟩,
              ⟨(some 34), (some (33, true)), .faddr 1, [.slot 1], none⟩,
              ⟨(some 35), (some (33, true)), .load 1 false, [.slot 34], none⟩,
              ⟨(some 36), (some (33, true)), .bin .leq, [.slot 35, .val (.int .i64 1099511627776)], none⟩,
              ⟨(some 37), none, .pick, [.slot 33, .slot 36, .val (.bool false)], none⟩,
              ⟨(some 38), none, .id, [.slot 37], none⟩,
              ⟨(some 39), (some (38, true)), .faddr 2, [.slot 1], none⟩,
              ⟨(some 40), (some (38, true)), .load 1 false, [.slot 39], none⟩,
              ⟨(some 41), (some (38, true)), .bin .eql, [.slot 40, .val (.str ⟨#[]⟩)], none⟩,
              ⟨(some 42), none, .pick, [.slot 38, .slot 41, .val (.bool false)], none⟩,
              ⟨(some 2), none, .id, [.slot 42], none⟩])
            (.ret))
           (.seq
            (.region [
              ⟨(some 44), none, .bin .eql, [.slot 6, .val (.int .i64 3)], none⟩,
              ⟨(some 43), none, .id, [.slot 44], none⟩])
            (.cond (.slot 43)
             (.seq
              (.region [
                ⟨(some 45), none, .faddr 1, [.slot 1], none⟩,
                ⟨(some 46), none, .load 1 false, [.slot 45], none⟩,
                ⟨(some 47), none, .bin .eql, [.slot 46, .val (.int .i64 0)], none⟩,
                ⟨(some 48), none, .id, [.slot 47], none⟩,
                ⟨(some 49), (some (48, true)), .faddr 2, [.slot 1], none⟩,
                ⟨(some 50), (some (48, true)), .load 1 false, [.slot 49], none⟩,
                ⟨(some 51), (some (48, true)), .call f_value_plain, [.slot 50], none⟩,
                ⟨(some 52), none, .pick, [.slot 48, .slot 51, .val (.bool false)], none⟩,
                ⟨(some 2), none, .id, [.slot 52], none⟩])
              (.ret))
             (.seq
              (.region [
                ⟨(some 54), none, .bin .eql, [.slot 6, .val (.int .i64 4)], none⟩,
                ⟨(some 53), none, .id, [.slot 54], none⟩])
              (.cond (.slot 53)
               (.seq
                (.region [
                  ⟨(some 55), none, .faddr 1, [.slot 1], none⟩,
                  ⟨(some 56), none, .load 1 false, [.slot 55], none⟩,
                  ⟨(some 57), none, .bin .eql, [.slot 56, .val (.int .i64 0)], none⟩,
                  ⟨(some 58), none, .id, [.slot 57], none⟩,
                  ⟨(some 59), (some (58, true)), .faddr 2, [.slot 1], none⟩,
                  ⟨(some 60), (some (58, true)), .load 1 false, [.slot 59], none⟩,
                  ⟨(some 61), (some (58, true)), .call f_value_Name, [.slot 60], none⟩,
                  ⟨(some 62), none, .pick, [.slot 58, .slot 61, .val (.bool false)], none⟩,
                  ⟨(some 2), none, .id, [.slot 62], none⟩])
                (.ret))
               (.skip)))))))))))))
   (.seq
    (.region [
      ⟨(some 64), none, .load 3 true, [.slot 1], none⟩,
      ⟨(some 65), none, .call f_value_Link, [.slot 64], none⟩,
      ⟨(some 63), none, .id, [.slot 65], none⟩,
      ⟨(some 66), none, .extract 0, [.slot 63], none⟩,
      ⟨(some 67), none, .extract 1, [.slot 63], none⟩,
      ⟨(some 3), none, .allocL [(.str ⟨#[]⟩), (.str ⟨#[]⟩), (.str ⟨#[]⟩)], [], none⟩,
      ⟨none, none, .store 3, [.slot 3, .slot 66], none⟩,
      ⟨(some 4), none, .id, [.slot 67], none⟩])
    (.seq
     (.region [
       ⟨(some 68), none, .id, [.slot 4], none⟩,
       ⟨(some 2), none, .id, [.slot 68], none⟩])
     (.ret))))
def F_value_Right : IFun := ⟨69, [.slot 2], b_value_Right, 3, 2⟩
theorem c_value_Right : cFun Tryd.prog [1048577, 1048579] 2 f_value_Right = some F_value_Right := by kernel_rfl

def L0_expr_Right : ICode :=
 .seq
  (.region [
    ⟨(some 8), none, .bin .lss, [.slot 7, .slot 6], none⟩])
  (.seq
   (.cond (.slot 8)
    (.skip)
    (.exit 0))
   (.seq
    (.block 1
     (.seq
      (.region [
        ⟨(some 9), none, .id, [.slot 7], none⟩,
        ⟨(some 10), none, .ixaddr 8, [.slot 5, .slot 7], none⟩,
        ⟨(some 11), none, .load 8 true, [.slot 10], none⟩,
        ⟨(some 4), none, .allocL [(.int .i64 0), (.int .i64 0), (.int .i64 0), (.str ⟨#[]⟩), (.str ⟨#[]⟩), (.str ⟨#[]⟩), (.int .i64 0), (.int .i64 0)], [], none⟩,
        ⟨(some 3), none, .id, [.slot 9], none⟩,
        ⟨none, none, .store 8, [.slot 4, .slot 11], none⟩])
      (.seq
       (.region [
         ⟨(some 12), none, .load 8 true, [.slot 4], none⟩,
         ⟨(some 13), none, .id, [.slot 3], none⟩,
         ⟨(some 14), none, .call f_expr_may, [.slot 12, .slot 13], none⟩,
         ⟨(some 15), none, .un .not, [.slot 14], none⟩])
       (.cond (.slot 15)
        (.seq
         (.region [
           ⟨(some 2), none, .id, [.val (.int .i64 1)], none⟩])
         (.ret))
        (.skip)))))
    (.region [
      ⟨(some 16), none, .bin .add, [.slot 7, .val (.int .i64 1)], none⟩,
      ⟨(some 7), none, .id, [.slot 16], none⟩])))
def b_expr_Right : ICode :=
 .seq
  (.region [
    ⟨(some 2), none, .id, [.val (.int .i64 0)], none⟩])
  (.seq
   (.seq
    (.region [
      ⟨(some 5), none, .id, [.slot 0], none⟩,
      ⟨(some 6), none, .lensl, [.slot 5], none⟩,
      ⟨(some 7), none, .id, [.val (.int .i64 0)], none⟩])
    (.block 0
     (.loop L0_expr_Right)))
   (.seq
    (.region [
      ⟨(some 2), none, .id, [.val (.int .i64 0)], none⟩])
    (.ret)))
def F_expr_Right : IFun := ⟨17, [.slot 2], b_expr_Right, 3, 1⟩
theorem c_expr_Right : cFun Tryd.prog [1048580, 2097194] 1 f_expr_Right = some F_expr_Right := by kernel_rfl

def b_slices_ContainsFunceval_Enveval_Bind : ICode :=
 .seq
  (.region [
    ⟨(some 4), none, .id, [.val (.bool false)], none⟩])
  (.seq
   (.region [
     ⟨(some 5), none, .id, [.slot 0], none⟩,
     ⟨(some 6), none, .id, [.slot 1], none⟩,
     ⟨(some 7), none, .call f_slices_IndexFunceval_Enveval_Bind, [.slot 5, .slot 6], none⟩,
     ⟨(some 8), none, .bin .geq, [.slot 7, .val (.int .i64 0)], none⟩,
     ⟨(some 4), none, .id, [.slot 8], none⟩])
   (.ret))
def F_slices_ContainsFunceval_Enveval_Bind : IFun := ⟨9, [.slot 4], b_slices_ContainsFunceval_Enveval_Bind, 3, 0⟩
theorem c_slices_ContainsFunceval_Enveval_Bind : cFun Tryd.prog [] 0 f_slices_ContainsFunceval_Enveval_Bind = some F_slices_ContainsFunceval_Enveval_Bind := by kernel_rfl

def b_eval_reckoner_at : ICode :=
 .seq
  (.region [
    ⟨(some 3), none, .boxL, [.slot 1], none⟩,
    ⟨(some 4), none, .allocL [(.int .i64 0), (.int .i64 0), (.str ⟨#[]⟩)], [], none⟩])
  (.seq
   (.seq
    (.region [
      ⟨(some 7), none, .faddr 0, [.slot 3], none⟩,
      ⟨(some 8), none, .load 1 false, [.slot 7], none⟩,
      ⟨(some 9), none, .bin .lss, [.slot 8, .val (.int .i64 5)], none⟩])
    (.cond (.slot 9)
     (.seq
      (.region [
        ⟨(some 10), none, .id, [.slot 0], none⟩,
        ⟨(some 11), none, .load 8 true, [.slot 3], none⟩,
        ⟨(some 12), none, .call f_eval_reckoner_leaf, [.slot 10, .slot 11], none⟩,
        ⟨none, none, .store 3, [.slot 4, .slot 12], none⟩])
      (.ret))
     (.skip)))
   (.seq
    (.seq
     (.region [
       ⟨(some 13), none, .id, [.slot 0], none⟩,
       ⟨(some 14), none, .nilchk, [.slot 13], none⟩,
       ⟨(some 15), none, .faddr 3, [.slot 14], none⟩,
       ⟨(some 16), none, .load 1 false, [.slot 15], (some (.heap))⟩,
       ⟨(some 17), none, .faddr 6, [.slot 3], none⟩,
       ⟨(some 18), none, .load 1 false, [.slot 17], (some (.loc 3))⟩,
       ⟨(some 19), none, .ixaddr 3, [.slot 16, .slot 18], none⟩,
       ⟨(some 20), none, .load 3 true, [.slot 19], (some (.el))⟩,
       ⟨(some 5), none, .allocK 8 [(.int .i64 0), (.int .i64 0), (.str ⟨#[]⟩)], [], none⟩,
       ⟨none, none, .store 3, [.slot 5, .slot 20], (some (.loc 5))⟩])
     (.bump 10))
    (.seq
     (.seq
      (.region [
        ⟨(some 21), none, .faddr 0, [.slot 3], none⟩,
        ⟨(some 22), none, .load 1 false, [.slot 21], none⟩,
        ⟨(some 23), none, .bin .lss, [.slot 22, .val (.int .i64 8)], none⟩])
      (.cond (.slot 23)
       (.seq
        (.region [
          ⟨(some 24), none, .faddr 0, [.slot 3], none⟩,
          ⟨(some 25), none, .load 1 false, [.slot 24], none⟩,
          ⟨(some 26), none, .load 3 true, [.slot 5], none⟩,
          ⟨(some 27), none, .call f_eval_one, [.slot 25, .slot 26], none⟩,
          ⟨none, none, .store 3, [.slot 4, .slot 27], none⟩])
        (.ret))
       (.skip)))
     (.seq
      (.seq
       (.region [
         ⟨(some 28), none, .id, [.slot 0], none⟩,
         ⟨(some 29), none, .nilchk, [.slot 28], none⟩,
         ⟨(some 30), none, .faddr 3, [.slot 29], none⟩,
         ⟨(some 31), none, .load 1 false, [.slot 30], (some (.heap))⟩,
         ⟨(some 32), none, .faddr 7, [.slot 3], none⟩,
         ⟨(some 33), none, .load 1 false, [.slot 32], (some (.loc 3))⟩,
         ⟨(some 34), none, .ixaddr 3, [.slot 31, .slot 33], none⟩,
         ⟨(some 35), none, .load 3 true, [.slot 34], (some (.el))⟩,
         ⟨(some 6), none, .allocK 8 [(.int .i64 0), (.int .i64 0), (.str ⟨#[]⟩)], [], none⟩,
         ⟨none, none, .store 3, [.slot 6, .slot 35], (some (.loc 6))⟩])
       (.bump 10))
      (.seq
       (.block 0
        (.seq
         (.region [
           ⟨(some 37), none, .faddr 0, [.slot 3], none⟩,
           ⟨(some 38), none, .load 1 false, [.slot 37], none⟩,
           ⟨(some 39), none, .bin .eql, [.slot 38, .val (.int .i64 8)], none⟩,
           ⟨(some 36), none, .id, [.slot 39], none⟩])
         (.cond (.slot 36)
          (.seq
           (.region [
             ⟨(some 40), none, .load 3 true, [.slot 5], none⟩,
             ⟨(some 41), none, .load 3 true, [.slot 6], none⟩,
             ⟨(some 42), none, .call f_eval_logic, [.slot 40, .slot 41, .val (.bool true)], none⟩,
             ⟨none, none, .store 3, [.slot 4, .slot 42], none⟩])
           (.ret))
          (.seq
           (.region [
             ⟨(some 44), none, .faddr 0, [.slot 3], none⟩,
             ⟨(some 45), none, .load 1 false, [.slot 44], none⟩,
             ⟨(some 46), none, .bin .eql, [.slot 45, .val (.int .i64 9)], none⟩,
             ⟨(some 43), none, .id, [.slot 46], none⟩])
           (.cond (.slot 43)
            (.seq
             (.region [
               ⟨(some 47), none, .load 3 true, [.slot 5], none⟩,
               ⟨(some 48), none, .load 3 true, [.slot 6], none⟩,
               ⟨(some 49), none, .call f_eval_logic, [.slot 47, .slot 48, .val (.bool false)], none⟩,
               ⟨none, none, .store 3, [.slot 4, .slot 49], none⟩])
             (.ret))
            (.seq
             (.region [
               ⟨(some 51), none, .faddr 0, [.slot 3], none⟩,
               ⟨(some 52), none, .load 1 false, [.slot 51], none⟩,
               ⟨(some 53), none, .bin .lss, [.slot 52, .val (.int .i64 16)], none⟩,
               ⟨(some 50), none, .id, [.slot 53], none⟩])
             (.cond (.slot 50)
              (.seq
               (.region [
                 ⟨(some 54), none, .faddr 0, [.slot 3], none⟩,
                 ⟨(some 55), none, .load 1 false, [.slot 54], none⟩,
                 ⟨(some 56), none, .load 3 true, [.slot 5], none⟩,
                 ⟨(some 57), none, .load 3 true, [.slot 6], none⟩,
                 ⟨(some 58), none, .call f_eval_compared, [.slot 55, .slot 56, .slot 57], none⟩,
                 ⟨none, none, .store 3, [.slot 4, .slot 58], none⟩])
               (.ret))
              (.skip))))))))
       (.seq
        (.region [
          ⟨(some 59), none, .faddr 0, [.slot 3], none⟩,
          ⟨(some 60), none, .load 1 false, [.slot 59], none⟩,
          ⟨(some 61), none, .load 3 true, [.slot 5], none⟩,
          ⟨(some 62), none, .load 3 true, [.slot 6], none⟩,
          ⟨(some 63), none, .call f_eval_reckoned, [.slot 60, .slot 61, .slot 62], none⟩,
          ⟨none, none, .store 3, [.slot 4, .slot 63], none⟩])
        (.ret)))))))
def F_eval_reckoner_at : IFun := ⟨64, [.cell 4 3 true], b_eval_reckoner_at, 3, 1⟩
theorem c_eval_reckoner_at : cFun Tryd.prog [1048579, 1048580, 1048581, 1048582, 2097197, 2097198, 2097199] 1 f_eval_reckoner_at = some F_eval_reckoner_at := by kernel_rfl

def L0_cmp_Orint : ICode :=
 .seq
  (.region [
    ⟨(some 9), none, .bin .lss, [.slot 8, .slot 7], none⟩])
  (.seq
   (.cond (.slot 9)
    (.skip)
    (.exit 0))
   (.seq
    (.block 1
     (.seq
      (.region [
        ⟨(some 10), none, .ixaddr 1, [.slot 6, .slot 8], none⟩,
        ⟨(some 11), none, .load 1 false, [.slot 10], none⟩,
        ⟨(some 5), none, .id, [.slot 11], none⟩])
      (.seq
       (.region [
         ⟨(some 12), none, .id, [.slot 5], none⟩,
         ⟨(some 13), none, .id, [.slot 3], none⟩,
         ⟨(some 14), none, .bin .neq, [.slot 12, .slot 13], none⟩])
       (.cond (.slot 14)
        (.seq
         (.region [
           ⟨(some 15), none, .id, [.slot 5], none⟩,
           ⟨(some 2), none, .id, [.slot 15], none⟩])
         (.ret))
        (.skip)))))
    (.region [
      ⟨(some 16), none, .bin .add, [.slot 8, .val (.int .i64 1)], none⟩,
      ⟨(some 8), none, .id, [.slot 16], none⟩])))
def b_cmp_Orint : ICode :=
 .seq
  (.region [
    ⟨(some 2), none, .id, [.val (.int .i64 0)], none⟩])
  (.seq
   (.region [
     ⟨(some 3), none, .id, [.val (.int .i64 0)], none⟩])
   (.seq
    (.seq
     (.region [
       ⟨(some 6), none, .id, [.slot 0], none⟩,
       ⟨(some 7), none, .lensl, [.slot 6], none⟩,
       ⟨(some 8), none, .id, [.val (.int .i64 0)], none⟩])
     (.block 0
      (.loop L0_cmp_Orint)))
    (.seq
     (.region [
       ⟨(some 17), none, .id, [.slot 3], none⟩,
       ⟨(some 2), none, .id, [.slot 17], none⟩])
     (.ret))))
def F_cmp_Orint : IFun := ⟨18, [.slot 2], b_cmp_Orint, 3, 0⟩
theorem c_cmp_Orint : cFun Tryd.prog [] 0 f_cmp_Orint = some F_cmp_Orint := by kernel_rfl

def b_cmp_Compareint : ICode :=
 .seq
  (.region [
    ⟨(some 4), none, .id, [.val (.int .i64 0)], none⟩])
  (.seq
   (.region [
     ⟨(some 7), none, .id, [.slot 0], none⟩,
     ⟨(some 8), none, .call f_cmp_isNaNint, [.slot 7], none⟩,
     ⟨(some 5), none, .id, [.slot 8], none⟩])
   (.seq
    (.region [
      ⟨(some 9), none, .id, [.slot 1], none⟩,
      ⟨(some 10), none, .call f_cmp_isNaNint, [.slot 9], none⟩,
      ⟨(some 6), none, .id, [.slot 10], none⟩])
    (.seq
     (.seq
      (.region [
        ⟨(some 11), none, .id, [.slot 5], none⟩])
      (.cond (.slot 11)
       (.seq
        (.seq
         (.region [
           ⟨(some 12), none, .id, [.slot 6], none⟩])
         (.cond (.slot 12)
          (.seq
           (.region [
             ⟨(some 4), none, .id, [.val (.int .i64 0)], none⟩])
           (.ret))
          (.skip)))
        (.seq
         (.region [
           ⟨(some 4), none, .id, [.val (.int .i64 (-1))], none⟩])
         (.ret)))
       (.skip)))
     (.seq
      (.seq
       (.region [
         ⟨(some 13), none, .id, [.slot 6], none⟩])
       (.cond (.slot 13)
        (.seq
         (.region [
           ⟨(some 4), none, .id, [.val (.int .i64 1)], none⟩])
         (.ret))
        (.skip)))
      (.seq
       (.seq
        (.region [
          ⟨(some 14), none, .id, [.slot 0], none⟩,
          ⟨(some 15), none, .id, [.slot 1], none⟩,
          ⟨(some 16), none, .bin .lss, [.slot 14, .slot 15], none⟩])
        (.cond (.slot 16)
         (.seq
          (.region [
            ⟨(some 4), none, .id, [.val (.int .i64 (-1))], none⟩])
          (.ret))
         (.skip)))
       (.seq
        (.seq
         (.region [
           ⟨(some 17), none, .id, [.slot 0], none⟩,
           ⟨(some 18), none, .id, [.slot 1], none⟩,
           ⟨(some 19), none, .bin .gtr, [.slot 17, .slot 18], none⟩])
         (.cond (.slot 19)
          (.seq
           (.region [
             ⟨(some 4), none, .id, [.val (.int .i64 1)], none⟩])
           (.ret))
          (.skip)))
        (.seq
         (.region [
           ⟨(some 4), none, .id, [.val (.int .i64 0)], none⟩])
         (.ret))))))))
def F_cmp_Compareint : IFun := ⟨20, [.slot 4], b_cmp_Compareint, 3, 0⟩
theorem c_cmp_Compareint : cFun Tryd.prog [] 0 f_cmp_Compareint = some F_cmp_Compareint := by kernel_rfl

def b_cmp_Comparestring : ICode :=
 .seq
  (.region [
    ⟨(some 4), none, .id, [.val (.int .i64 0)], none⟩])
  (.seq
   (.region [
     ⟨(some 7), none, .id, [.slot 0], none⟩,
     ⟨(some 8), none, .call f_cmp_isNaNstring, [.slot 7], none⟩,
     ⟨(some 5), none, .id, [.slot 8], none⟩])
   (.seq
    (.region [
      ⟨(some 9), none, .id, [.slot 1], none⟩,
      ⟨(some 10), none, .call f_cmp_isNaNstring, [.slot 9], none⟩,
      ⟨(some 6), none, .id, [.slot 10], none⟩])
    (.seq
     (.seq
      (.region [
        ⟨(some 11), none, .id, [.slot 5], none⟩])
      (.cond (.slot 11)
       (.seq
        (.seq
         (.region [
           ⟨(some 12), none, .id, [.slot 6], none⟩])
         (.cond (.slot 12)
          (.seq
           (.region [
             ⟨(some 4), none, .id, [.val (.int .i64 0)], none⟩])
           (.ret))
          (.skip)))
        (.seq
         (.region [
           ⟨(some 4), none, .id, [.val (.int .i64 (-1))], none⟩])
         (.ret)))
       (.skip)))
     (.seq
      (.seq
       (.region [
         ⟨(some 13), none, .id, [.slot 6], none⟩])
       (.cond (.slot 13)
        (.seq
         (.region [
           ⟨(some 4), none, .id, [.val (.int .i64 1)], none⟩])
         (.ret))
        (.skip)))
      (.seq
       (.seq
        (.region [
          ⟨(some 14), none, .id, [.slot 0], none⟩,
          ⟨(some 15), none, .id, [.slot 1], none⟩,
          ⟨(some 16), none, .bin .lss, [.slot 14, .slot 15], none⟩])
        (.cond (.slot 16)
         (.seq
          (.region [
            ⟨(some 4), none, .id, [.val (.int .i64 (-1))], none⟩])
          (.ret))
         (.skip)))
       (.seq
        (.seq
         (.region [
           ⟨(some 17), none, .id, [.slot 0], none⟩,
           ⟨(some 18), none, .id, [.slot 1], none⟩,
           ⟨(some 19), none, .bin .gtr, [.slot 17, .slot 18], none⟩])
         (.cond (.slot 19)
          (.seq
           (.region [
             ⟨(some 4), none, .id, [.val (.int .i64 1)], none⟩])
           (.ret))
          (.skip)))
        (.seq
         (.region [
           ⟨(some 4), none, .id, [.val (.int .i64 0)], none⟩])
         (.ret))))))))
def F_cmp_Comparestring : IFun := ⟨20, [.slot 4], b_cmp_Comparestring, 3, 0⟩
theorem c_cmp_Comparestring : cFun Tryd.prog [] 0 f_cmp_Comparestring = some F_cmp_Comparestring := by kernel_rfl

def b_eval_boolean : ICode :=
 .seq
  (.region [
    ⟨(some 2), none, .allocL [(.int .i64 0), (.int .i64 0), (.str ⟨#[]⟩)], [], none⟩])
  (.seq
   (.region [
     ⟨(some 4), none, .build [(.int .i64 0), (.int .i64 0), (.str ⟨#[]⟩)] [(0, 1)], [.val (.int .i64 1)], none⟩,
     ⟨(some 3), none, .allocL [(.int .i64 0), (.int .i64 0), (.str ⟨#[]⟩)], [], none⟩,
     ⟨none, none, .store 3, [.slot 3, .slot 4], none⟩])
   (.seq
    (.seq
     (.region [
       ⟨(some 5), none, .id, [.slot 0], none⟩])
     (.cond (.slot 5)
      (.region [
        ⟨(some 6), none, .faddr 1, [.slot 3], none⟩,
        ⟨none, none, .store 1, [.slot 6, .val (.int .i64 1)], none⟩])
      (.skip)))
    (.seq
     (.region [
       ⟨(some 7), none, .load 3 true, [.slot 3], none⟩,
       ⟨none, none, .store 3, [.slot 2, .slot 7], none⟩])
     (.ret))))
def F_eval_boolean : IFun := ⟨8, [.cell 2 3 true], b_eval_boolean, 3, 2⟩
theorem c_eval_boolean : cFun Tryd.prog [1048578, 1048579] 2 f_eval_boolean = some F_eval_boolean := by kernel_rfl

def b_eval_Env_find : ICode :=
 .seq
  (.region [
    ⟨(some 3), none, .boxH, [.slot 1], none⟩,
    ⟨(some 4), none, .id, [.val (.int .i64 0)], none⟩])
  (.seq
   (.region [
     ⟨(some 5), none, .id, [.slot 0], none⟩,
     ⟨(some 6), none, .mkfunc f_eval_Env_find_1 0, [.slot 3], none⟩,
     ⟨(some 7), none, .call f_slices_IndexFunceval_Enveval_Bind, [.slot 5, .slot 6], none⟩,
     ⟨(some 4), none, .id, [.slot 7], none⟩])
   (.ret))
def F_eval_Env_find : IFun := ⟨8, [.slot 4], b_eval_Env_find, 3, 0⟩
theorem c_eval_Env_find : cFun Tryd.prog [3] 0 f_eval_Env_find = some F_eval_Env_find := by kernel_rfl

def L0_value_plain : ICode :=
 .seq
  (.region [
    ⟨(some 7), none, .next, [.slot 6], none⟩,
    ⟨(some 8), none, .extract 0, [.slot 7], none⟩])
  (.seq
   (.cond (.slot 8)
    (.skip)
    (.exit 0))
   (.block 1
    (.seq
     (.region [
       ⟨(some 9), none, .extract 2, [.slot 7], none⟩,
       ⟨(some 4), none, .id, [.slot 9], none⟩])
     (.seq
      (.region [
        ⟨(some 10), none, .id, [.slot 4], none⟩,
        ⟨(some 11), none, .bin .lss, [.slot 10, .val (.int .i32 32)], none⟩,
        ⟨(some 12), none, .id, [.slot 11], none⟩,
        ⟨(some 13), (some (12, false)), .id, [.slot 4], none⟩,
        ⟨(some 14), (some (12, false)), .bin .gtr, [.slot 13, .val (.int .i32 126)], none⟩,
        ⟨(some 15), none, .pick, [.slot 12, .val (.bool true), .slot 14], none⟩])
      (.cond (.slot 15)
       (.seq
        (.region [
          ⟨(some 2), none, .id, [.val (.bool false)], none⟩])
        (.ret))
       (.skip))))))
def b_value_plain : ICode :=
 .seq
  (.region [
    ⟨(some 2), none, .id, [.val (.bool false)], none⟩])
  (.seq
   (.seq
    (.region [
      ⟨(some 5), none, .id, [.slot 0], none⟩,
      ⟨(some 6), none, .range, [.slot 5], none⟩])
    (.block 0
     (.loop L0_value_plain)))
   (.seq
    (.region [
      ⟨(some 16), none, .id, [.slot 0], none⟩,
      ⟨(some 17), none, .lenstr, [.slot 16], none⟩,
      ⟨(some 18), none, .bin .leq, [.slot 17, .val (.int .i64 64)], none⟩,
      ⟨(some 2), none, .id, [.slot 18], none⟩])
    (.ret)))
def F_value_plain : IFun := ⟨19, [.slot 2], b_value_plain, 3, 0⟩
theorem c_value_plain : cFun Tryd.prog [] 0 f_value_plain = some F_value_plain := by kernel_rfl

def L0_value_Name : ICode :=
 .seq
  (.region [
    ⟨(some 20), none, .bin .lss, [.slot 19, .slot 18], none⟩])
  (.seq
   (.cond (.slot 20)
    (.skip)
    (.exit 0))
   (.seq
    (.block 1
     (.seq
      (.region [
        ⟨(some 21), none, .id, [.slot 19], none⟩,
        ⟨(some 3), none, .id, [.slot 21], none⟩])
      (.seq
       (.region [
         ⟨(some 22), none, .id, [.slot 0], none⟩,
         ⟨(some 23), none, .id, [.slot 3], none⟩,
         ⟨(some 24), none, .ixstr, [.slot 22, .slot 23], none⟩,
         ⟨(some 25), none, .call f_value_inner, [.slot 24], none⟩,
         ⟨(some 26), none, .un .not, [.slot 25], none⟩])
       (.cond (.slot 26)
        (.seq
         (.region [
           ⟨(some 2), none, .id, [.val (.bool false)], none⟩])
         (.ret))
        (.skip)))))
    (.region [
      ⟨(some 27), none, .bin .add, [.slot 19, .val (.int .i64 1)], none⟩,
      ⟨(some 19), none, .id, [.slot 27], none⟩])))
def b_value_Name : ICode :=
 .seq
  (.region [
    ⟨(some 2), none, .id, [.val (.bool false)], none⟩])
  (.seq
   (.seq
    (.region [
      ⟨(some 4), none, .id, [.slot 0], none⟩,
      ⟨(some 5), none, .bin .eql, [.slot 4, .val (.str ⟨#[]⟩)], none⟩,
      ⟨(some 6), none, .id, [.slot 5], none⟩,
      ⟨(some 7), (some (6, false)), .id, [.slot 0], none⟩,
      ⟨(some 8), (some (6, false)), .lenstr, [.slot 7], none⟩,
      ⟨(some 9), (some (6, false)), .bin .gtr, [.slot 8, .val (.int .i64 16)], none⟩,
      ⟨(some 10), none, .pick, [.slot 6, .val (.bool true), .slot 9], none⟩,
      ⟨(some 11), none, .id, [.slot 10], none⟩,
      ⟨(some 12), (some (11, false)), .id, [.slot 0], none⟩,
      ⟨(some 13), (some (11, false)), .ixstr, [.slot 12, .val (.int .i64 0)], none⟩,
      ⟨(some 14), (some (11, false)), .call f_value_letter, [.slot 13], none⟩,
      ⟨(some 15), (some (11, false)), .un .not, [.slot 14], none⟩,
      ⟨(some 16), none, .pick, [.slot 11, .val (.bool true), .slot 15], none⟩])
    (.cond (.slot 16)
     (.seq
      (.region [
        ⟨(some 2), none, .id, [.val (.bool false)], none⟩])
      (.ret))
     (.skip)))
   (.seq
    (.seq
     (.region [
       ⟨(some 17), none, .id, [.slot 0], none⟩,
       ⟨(some 18), none, .lenstr, [.slot 17], none⟩,
       ⟨(some 19), none, .id, [.val (.int .i64 0)], none⟩])
     (.block 0
      (.loop L0_value_Name)))
    (.seq
     (.region [
       ⟨(some 2), none, .id, [.val (.bool true)], none⟩])
     (.ret))))
def F_value_Name : IFun := ⟨28, [.slot 2], b_value_Name, 3, 0⟩
theorem c_value_Name : cFun Tryd.prog [] 0 f_value_Name = some F_value_Name := by kernel_rfl

def b_value_Link : ICode :=
 .seq
  (.region [
    ⟨(some 1), none, .boxL, [.slot 0], none⟩,
    ⟨(some 2), none, .allocL [(.str ⟨#[]⟩), (.str ⟨#[]⟩), (.str ⟨#[]⟩)], [], none⟩,
    ⟨(some 3), none, .id, [.val (.bool false)], none⟩])
  (.seq
   (.region [
     ⟨(some 5), none, .faddr 2, [.slot 1], none⟩,
     ⟨(some 6), none, .load 1 false, [.slot 5], none⟩,
     ⟨(some 7), none, .call f_strings_Split, [.slot 6, .val (.str ⟨#[62]⟩)], none⟩,
     ⟨(some 4), none, .id, [.slot 7], none⟩])
   (.seq
    (.seq
     (.region [
       ⟨(some 8), none, .faddr 0, [.slot 1], none⟩,
       ⟨(some 9), none, .load 1 false, [.slot 8], none⟩,
       ⟨(some 10), none, .bin .neq, [.slot 9, .val (.int .i64 5)], none⟩,
       ⟨(some 11), none, .id, [.slot 10], none⟩,
       ⟨(some 12), (some (11, false)), .faddr 1, [.slot 1], none⟩,
       ⟨(some 13), (some (11, false)), .load 1 false, [.slot 12], none⟩,
       ⟨(some 14), (some (11, false)), .bin .neq, [.slot 13, .val (.int .i64 0)], none⟩,
       ⟨(some 15), none, .pick, [.slot 11, .val (.bool true), .slot 14], none⟩,
       ⟨(some 16), none, .id, [.slot 15], none⟩,
       ⟨(some 17), (some (16, false)), .id, [.slot 4], none⟩,
       ⟨(some 18), (some (16, false)), .lensl, [.slot 17], none⟩,
       ⟨(some 19), (some (16, false)), .bin .neq, [.slot 18, .val (.int .i64 3)], none⟩,
       ⟨(some 20), none, .pick, [.slot 16, .val (.bool true), .slot 19], none⟩,
       ⟨(some 21), none, .id, [.slot 20], none⟩,
       ⟨(some 22), (some (21, false)), .id, [.slot 4], none⟩,
       ⟨(some 23), (some (21, false)), .call f_value_names, [.slot 22], none⟩,
       ⟨(some 24), (some (21, false)), .un .not, [.slot 23], none⟩,
       ⟨(some 25), none, .pick, [.slot 21, .val (.bool true), .slot 24], none⟩])
     (.cond (.slot 25)
      (.seq
       (.region [
         ⟨(some 26), none, .build [(.str ⟨#[]⟩), (.str ⟨#[]⟩), (.str ⟨#[]⟩)] [], [], none⟩,
         ⟨none, none, .store 3, [.slot 2, .slot 26], none⟩,
         ⟨(some 3), none, .id, [.val (.bool false)], none⟩])
       (.ret))
      (.skip)))
    (.seq
     (.region [
       ⟨(some 27), none, .id, [.slot 4], none⟩,
       ⟨(some 28), none, .ixaddr 1, [.slot 27, .val (.int .i64 0)], none⟩,
       ⟨(some 29), none, .load 1 false, [.slot 28], (some (.el))⟩,
       ⟨(some 30), none, .id, [.slot 4], none⟩,
       ⟨(some 31), none, .ixaddr 1, [.slot 30, .val (.int .i64 1)], none⟩,
       ⟨(some 32), none, .load 1 false, [.slot 31], (some (.el))⟩,
       ⟨(some 33), none, .id, [.slot 4], none⟩,
       ⟨(some 34), none, .ixaddr 1, [.slot 33, .val (.int .i64 2)], none⟩,
       ⟨(some 35), none, .load 1 false, [.slot 34], (some (.el))⟩,
       ⟨(some 36), none, .build [(.str ⟨#[]⟩), (.str ⟨#[]⟩), (.str ⟨#[]⟩)] [(0, 1), (2, 1), (1, 1)], [.slot 29, .slot 32, .slot 35], none⟩,
       ⟨none, none, .store 3, [.slot 2, .slot 36], (some (.loc 2))⟩,
       ⟨(some 3), none, .id, [.val (.bool true)], none⟩])
     (.ret))))
def F_value_Link : IFun := ⟨37, [.cell 2 3 true, .slot 3], b_value_Link, 3, 0⟩
theorem c_value_Link : cFun Tryd.prog [1048577, 1048578] 0 f_value_Link = some F_value_Link := by kernel_rfl

def b_expr_may : ICode :=
 .seq
  (.region [
    ⟨(some 2), none, .boxL, [.slot 0], none⟩,
    ⟨(some 4), none, .id, [.val (.bool false)], none⟩])
  (.seq
   (.region [
     ⟨(some 7), none, .faddr 0, [.slot 2], none⟩,
     ⟨(some 8), none, .load 1 false, [.slot 7], none⟩,
     ⟨(some 9), none, .build [(.int .i64 0), (.int .i64 0), (.int .i64 0), (.str ⟨#[]⟩), (.str ⟨#[]⟩), (.str ⟨#[]⟩), (.int .i64 0), (.int .i64 0)] [(0, 1)], [.slot 8], none⟩,
     ⟨(some 5), none, .allocL [(.int .i64 0), (.int .i64 0), (.int .i64 0), (.str ⟨#[]⟩), (.str ⟨#[]⟩), (.str ⟨#[]⟩), (.int .i64 0), (.int .i64 0)], [], none⟩,
     ⟨none, none, .store 8, [.slot 5, .slot 9], none⟩])
   (.seq
    (.region [
      ⟨(some 6), none, .id, [.val (.bool true)], none⟩])
    (.seq
     (.block 0
      (.seq
       (.region [
         ⟨(some 11), none, .faddr 0, [.slot 2], none⟩,
         ⟨(some 12), none, .load 1 false, [.slot 11], none⟩,
         ⟨(some 13), none, .bin .eql, [.slot 12, .val (.int .i64 1)], none⟩,
         ⟨(some 10), none, .id, [.slot 13], none⟩])
       (.cond (.slot 10)
        (.seq
         (.region [
           ⟨(some 14), none, .faddr 1, [.slot 2], none⟩,
           ⟨(some 15), none, .load 3 true, [.slot 14], none⟩,
           ⟨(some 16), none, .faddr 1, [.slot 5], none⟩,
           ⟨none, none, .store 3, [.slot 16, .slot 15], none⟩])
         (.region [
           ⟨(some 17), none, .faddr 1, [.slot 2], none⟩,
           ⟨(some 18), none, .load 3 true, [.slot 17], none⟩,
           ⟨(some 19), none, .call f_value_Right, [.slot 18], none⟩,
           ⟨(some 20), none, .id, [.slot 19], none⟩,
           ⟨(some 21), (some (20, true)), .faddr 1, [.slot 2], none⟩,
           ⟨(some 22), (some (20, true)), .faddr 0, [.slot 21], none⟩,
           ⟨(some 23), (some (20, true)), .load 1 false, [.slot 22], none⟩,
           ⟨(some 24), (some (20, true)), .bin .neq, [.slot 23, .val (.int .i64 5)], none⟩,
           ⟨(some 25), none, .pick, [.slot 20, .slot 24, .val (.bool false)], none⟩,
           ⟨(some 26), none, .id, [.slot 25], none⟩,
           ⟨(some 27), (some (26, true)), .faddr 1, [.slot 2], none⟩,
           ⟨(some 28), (some (26, true)), .faddr 0, [.slot 27], none⟩,
           ⟨(some 29), (some (26, true)), .load 1 false, [.slot 28], none⟩,
           ⟨(some 30), (some (26, true)), .bin .neq, [.slot 29, .val (.int .i64 4)], none⟩,
           ⟨(some 31), (some (26, true)), .id, [.slot 30], none⟩,
           ⟨(some 32), (some (31, false)), .faddr 1, [.slot 2], none⟩,
           ⟨(some 33), (some (31, false)), .faddr 2, [.slot 32], none⟩,
           ⟨(some 34), (some (31, false)), .load 1 false, [.slot 33], none⟩,
           ⟨(some 35), (some (31, false)), .call f_expr_name, [.slot 34], none⟩,
           ⟨(some 36), (some (26, true)), .pick, [.slot 31, .val (.bool true), .slot 35], none⟩,
           ⟨(some 37), none, .pick, [.slot 26, .slot 36, .val (.bool false)], none⟩,
           ⟨(some 6), none, .id, [.slot 37], none⟩]))
        (.seq
         (.region [
           ⟨(some 39), none, .faddr 0, [.slot 2], none⟩,
           ⟨(some 40), none, .load 1 false, [.slot 39], none⟩,
           ⟨(some 41), none, .bin .eql, [.slot 40, .val (.int .i64 2)], none⟩,
           ⟨(some 38), none, .id, [.slot 41], none⟩])
         (.cond (.slot 38)
          (.seq
           (.region [
             ⟨(some 42), none, .faddr 4, [.slot 2], none⟩,
             ⟨(some 43), none, .load 1 false, [.slot 42], none⟩,
             ⟨(some 44), none, .faddr 4, [.slot 5], none⟩,
             ⟨none, none, .store 1, [.slot 44, .slot 43], none⟩])
           (.region [
             ⟨(some 45), none, .faddr 4, [.slot 2], none⟩,
             ⟨(some 46), none, .load 1 false, [.slot 45], none⟩,
             ⟨(some 47), none, .call f_expr_name, [.slot 46], none⟩,
             ⟨(some 6), none, .id, [.slot 47], none⟩]))
          (.seq
           (.region [
             ⟨(some 49), none, .faddr 0, [.slot 2], none⟩,
             ⟨(some 50), none, .load 1 false, [.slot 49], none⟩,
             ⟨(some 51), none, .bin .eql, [.slot 50, .val (.int .i64 3)], none⟩,
             ⟨(some 52), none, .id, [.slot 51], none⟩,
             ⟨(some 53), (some (52, false)), .faddr 0, [.slot 2], none⟩,
             ⟨(some 54), (some (52, false)), .load 1 false, [.slot 53], none⟩,
             ⟨(some 55), (some (52, false)), .bin .eql, [.slot 54, .val (.int .i64 4)], none⟩,
             ⟨(some 56), none, .pick, [.slot 52, .val (.bool true), .slot 55], none⟩,
             ⟨(some 48), none, .id, [.slot 56], none⟩])
           (.cond (.slot 48)
            (.seq
             (.region [
               ⟨(some 57), none, .faddr 4, [.slot 2], none⟩,
               ⟨(some 58), none, .load 1 false, [.slot 57], (some (.loc 2))⟩,
               ⟨(some 59), none, .faddr 5, [.slot 2], none⟩,
               ⟨(some 60), none, .load 1 false, [.slot 59], (some (.loc 2))⟩,
               ⟨(some 61), none, .faddr 4, [.slot 5], none⟩,
               ⟨none, none, .store 1, [.slot 61, .slot 58], (some (.loc 5))⟩,
               ⟨(some 62), none, .faddr 5, [.slot 5], none⟩,
               ⟨none, none, .store 1, [.slot 62, .slot 60], (some (.loc 5))⟩])
             (.region [
               ⟨(some 63), none, .faddr 4, [.slot 2], none⟩,
               ⟨(some 64), none, .load 1 false, [.slot 63], none⟩,
               ⟨(some 65), none, .call f_expr_name, [.slot 64], none⟩,
               ⟨(some 66), none, .id, [.slot 65], none⟩,
               ⟨(some 67), (some (66, true)), .faddr 5, [.slot 2], none⟩,
               ⟨(some 68), (some (66, true)), .load 1 false, [.slot 67], none⟩,
               ⟨(some 69), (some (66, true)), .call f_expr_name, [.slot 68], none⟩,
               ⟨(some 70), none, .pick, [.slot 66, .slot 69, .val (.bool false)], none⟩,
               ⟨(some 6), none, .id, [.slot 70], none⟩]))
            (.seq
             (.region [
               ⟨(some 72), none, .faddr 0, [.slot 2], none⟩,
               ⟨(some 73), none, .load 1 false, [.slot 72], none⟩,
               ⟨(some 74), none, .bin .geq, [.slot 73, .val (.int .i64 5)], none⟩,
               ⟨(some 75), none, .id, [.slot 74], none⟩,
               ⟨(some 76), (some (75, true)), .faddr 0, [.slot 2], none⟩,
               ⟨(some 77), (some (75, true)), .load 1 false, [.slot 76], none⟩,
               ⟨(some 78), (some (75, true)), .bin .leq, [.slot 77, .val (.int .i64 7)], none⟩,
               ⟨(some 79), none, .pick, [.slot 75, .slot 78, .val (.bool false)], none⟩,
               ⟨(some 71), none, .id, [.slot 79], none⟩])
             (.cond (.slot 71)
              (.seq
               (.region [
                 ⟨(some 80), none, .faddr 6, [.slot 2], none⟩,
                 ⟨(some 81), none, .load 1 false, [.slot 80], none⟩,
                 ⟨(some 82), none, .faddr 6, [.slot 5], none⟩,
                 ⟨none, none, .store 1, [.slot 82, .slot 81], none⟩])
               (.region [
                 ⟨(some 83), none, .faddr 6, [.slot 2], none⟩,
                 ⟨(some 84), none, .load 1 false, [.slot 83], none⟩,
                 ⟨(some 85), none, .bin .geq, [.slot 84, .val (.int .i64 0)], none⟩,
                 ⟨(some 86), none, .id, [.slot 85], none⟩,
                 ⟨(some 87), (some (86, true)), .faddr 6, [.slot 2], none⟩,
                 ⟨(some 88), (some (86, true)), .load 1 false, [.slot 87], none⟩,
                 ⟨(some 89), (some (86, true)), .id, [.slot 1], none⟩,
                 ⟨(some 90), (some (86, true)), .bin .lss, [.slot 88, .slot 89], none⟩,
                 ⟨(some 91), none, .pick, [.slot 86, .slot 90, .val (.bool false)], none⟩,
                 ⟨(some 6), none, .id, [.slot 91], none⟩]))
              (.seq
               (.region [
                 ⟨(some 93), none, .faddr 0, [.slot 2], none⟩,
                 ⟨(some 94), none, .load 1 false, [.slot 93], none⟩,
                 ⟨(some 95), none, .bin .geq, [.slot 94, .val (.int .i64 8)], none⟩,
                 ⟨(some 96), none, .id, [.slot 95], none⟩,
                 ⟨(some 97), (some (96, true)), .faddr 0, [.slot 2], none⟩,
                 ⟨(some 98), (some (96, true)), .load 1 false, [.slot 97], none⟩,
                 ⟨(some 99), (some (96, true)), .bin .leq, [.slot 98, .val (.int .i64 18)], none⟩,
                 ⟨(some 100), none, .pick, [.slot 96, .slot 99, .val (.bool false)], none⟩,
                 ⟨(some 92), none, .id, [.slot 100], none⟩])
               (.cond (.slot 92)
                (.seq
                 (.region [
                   ⟨(some 101), none, .faddr 6, [.slot 2], none⟩,
                   ⟨(some 102), none, .load 1 false, [.slot 101], (some (.loc 2))⟩,
                   ⟨(some 103), none, .faddr 7, [.slot 2], none⟩,
                   ⟨(some 104), none, .load 1 false, [.slot 103], (some (.loc 2))⟩,
                   ⟨(some 105), none, .faddr 6, [.slot 5], none⟩,
                   ⟨none, none, .store 1, [.slot 105, .slot 102], (some (.loc 5))⟩,
                   ⟨(some 106), none, .faddr 7, [.slot 5], none⟩,
                   ⟨none, none, .store 1, [.slot 106, .slot 104], (some (.loc 5))⟩])
                 (.region [
                   ⟨(some 107), none, .faddr 6, [.slot 2], none⟩,
                   ⟨(some 108), none, .load 1 false, [.slot 107], none⟩,
                   ⟨(some 109), none, .faddr 7, [.slot 2], none⟩,
                   ⟨(some 110), none, .load 1 false, [.slot 109], none⟩,
                   ⟨(some 111), none, .minmax false, [.slot 108, .slot 110], none⟩,
                   ⟨(some 112), none, .bin .geq, [.slot 111, .val (.int .i64 0)], none⟩,
                   ⟨(some 113), none, .id, [.slot 112], none⟩,
                   ⟨(some 114), (some (113, true)), .faddr 6, [.slot 2], none⟩,
                   ⟨(some 115), (some (113, true)), .load 1 false, [.slot 114], none⟩,
                   ⟨(some 116), (some (113, true)), .faddr 7, [.slot 2], none⟩,
                   ⟨(some 117), (some (113, true)), .load 1 false, [.slot 116], none⟩,
                   ⟨(some 118), (some (113, true)), .minmax true, [.slot 115, .slot 117], none⟩,
                   ⟨(some 119), (some (113, true)), .id, [.slot 1], none⟩,
                   ⟨(some 120), (some (113, true)), .bin .lss, [.slot 118, .slot 119], none⟩,
                   ⟨(some 121), none, .pick, [.slot 113, .slot 120, .val (.bool false)], none⟩,
                   ⟨(some 6), none, .id, [.slot 121], none⟩]))
                (.region [
                  ⟨(some 6), none, .id, [.val (.bool false)], none⟩]))))))))))))
     (.seq
      (.region [
        ⟨(some 122), none, .id, [.slot 6], none⟩,
        ⟨(some 123), none, .id, [.slot 122], none⟩,
        ⟨(some 124), (some (123, true)), .load 8 true, [.slot 2], none⟩,
        ⟨(some 125), (some (123, true)), .load 8 true, [.slot 5], none⟩,
        ⟨(some 126), (some (123, true)), .eqv false [(.int .i64), (.int .i64), (.int .i64), .str, .str, .str, (.int .i64), (.int .i64)], [.slot 124, .slot 125], none⟩,
        ⟨(some 127), none, .pick, [.slot 123, .slot 126, .val (.bool false)], none⟩,
        ⟨(some 4), none, .id, [.slot 127], none⟩])
      (.ret)))))
def F_expr_may : IFun := ⟨128, [.slot 4], b_expr_may, 3, 2⟩
theorem c_expr_may : cFun Tryd.prog [1048578, 1048581, 2097172] 2 f_expr_may = some F_expr_may := by kernel_rfl

def L0_slices_IndexFunceval_Enveval_Bind : ICode :=
 .seq
  (.region [
    ⟨(some 9), none, .bin .lss, [.slot 8, .slot 7], none⟩])
  (.seq
   (.cond (.slot 9)
    (.skip)
    (.exit 0))
   (.seq
    (.block 1
     (.seq
      (.region [
        ⟨(some 10), none, .id, [.slot 8], none⟩,
        ⟨(some 5), none, .id, [.slot 10], none⟩])
      (.seq
       (.region [
         ⟨(some 11), none, .id, [.slot 1], none⟩,
         ⟨(some 12), none, .id, [.slot 0], none⟩,
         ⟨(some 13), none, .id, [.slot 5], none⟩,
         ⟨(some 14), none, .ixaddr 4, [.slot 12, .slot 13], none⟩,
         ⟨(some 15), none, .load 4 true, [.slot 14], none⟩,
         ⟨(some 16), none, .callv, [.slot 11, .slot 15], none⟩])
       (.cond (.slot 16)
        (.seq
         (.region [
           ⟨(some 17), none, .id, [.slot 5], none⟩,
           ⟨(some 4), none, .id, [.slot 17], none⟩])
         (.ret))
        (.skip)))))
    (.region [
      ⟨(some 18), none, .bin .add, [.slot 8, .val (.int .i64 1)], none⟩,
      ⟨(some 8), none, .id, [.slot 18], none⟩])))
def b_slices_IndexFunceval_Enveval_Bind : ICode :=
 .seq
  (.region [
    ⟨(some 4), none, .id, [.val (.int .i64 0)], none⟩])
  (.seq
   (.seq
    (.region [
      ⟨(some 6), none, .id, [.slot 0], none⟩,
      ⟨(some 7), none, .lensl, [.slot 6], none⟩,
      ⟨(some 8), none, .id, [.val (.int .i64 0)], none⟩])
    (.block 0
     (.loop L0_slices_IndexFunceval_Enveval_Bind)))
   (.seq
    (.region [
      ⟨(some 4), none, .id, [.val (.int .i64 (-1))], none⟩])
    (.ret)))
def F_slices_IndexFunceval_Enveval_Bind : IFun := ⟨19, [.slot 4], b_slices_IndexFunceval_Enveval_Bind, 3, 0⟩
theorem c_slices_IndexFunceval_Enveval_Bind : cFun Tryd.prog [] 0 f_slices_IndexFunceval_Enveval_Bind = some F_slices_IndexFunceval_Enveval_Bind := by kernel_rfl

def b_eval_reckoner_leaf : ICode :=
 .seq
  (.region [
    ⟨(some 3), none, .boxL, [.slot 1], none⟩,
    ⟨(some 4), none, .allocL [(.int .i64 0), (.int .i64 0), (.str ⟨#[]⟩)], [], none⟩])
  (.seq
   (.seq
    (.region [
      ⟨(some 6), none, .faddr 0, [.slot 3], none⟩,
      ⟨(some 7), none, .load 1 false, [.slot 6], none⟩])
    (.block 0
     (.seq
      (.region [
        ⟨(some 9), none, .bin .eql, [.slot 7, .val (.int .i64 1)], none⟩,
        ⟨(some 8), none, .id, [.slot 9], none⟩])
      (.cond (.slot 8)
       (.seq
        (.region [
          ⟨(some 10), none, .faddr 1, [.slot 3], none⟩,
          ⟨(some 11), none, .load 3 true, [.slot 10], none⟩,
          ⟨none, none, .store 3, [.slot 4, .slot 11], none⟩])
        (.ret))
       (.seq
        (.region [
          ⟨(some 13), none, .bin .eql, [.slot 7, .val (.int .i64 2)], none⟩,
          ⟨(some 12), none, .id, [.slot 13], none⟩])
        (.cond (.slot 12)
         (.seq
          (.region [
            ⟨(some 14), none, .id, [.slot 0], none⟩,
            ⟨(some 15), none, .nilchk, [.slot 14], none⟩,
            ⟨(some 16), none, .faddr 1, [.slot 15], none⟩,
            ⟨(some 17), none, .load 1 false, [.slot 16], (some (.heap))⟩,
            ⟨(some 18), none, .faddr 4, [.slot 3], none⟩,
            ⟨(some 19), none, .load 1 false, [.slot 18], (some (.loc 3))⟩,
            ⟨(some 20), none, .call f_eval_Env_Get, [.slot 17, .slot 19], none⟩,
            ⟨none, none, .store 3, [.slot 4, .slot 20], (some (.loc 4))⟩])
          (.ret))
         (.seq
          (.region [
            ⟨(some 22), none, .bin .eql, [.slot 7, .val (.int .i64 4)], none⟩,
            ⟨(some 21), none, .id, [.slot 22], none⟩])
          (.cond (.slot 21)
           (.seq
            (.region [
              ⟨(some 23), none, .id, [.slot 0], none⟩,
              ⟨(some 24), none, .load 8 true, [.slot 3], none⟩,
              ⟨(some 25), none, .call f_eval_reckoner_values, [.slot 23, .slot 24], none⟩,
              ⟨(some 26), none, .lensl, [.slot 25], none⟩,
              ⟨(some 27), none, .call f_eval_number, [.slot 26], none⟩,
              ⟨none, none, .store 3, [.slot 4, .slot 27], none⟩])
            (.ret))
           (.skip)))))))))
   (.seq
    (.seq
     (.region [
       ⟨(some 28), none, .id, [.slot 0], none⟩,
       ⟨(some 29), none, .load 8 true, [.slot 3], none⟩,
       ⟨(some 30), none, .call f_eval_reckoner_values, [.slot 28, .slot 29], none⟩,
       ⟨(some 5), none, .id, [.slot 30], none⟩])
     (.seq
      (.region [
        ⟨(some 31), none, .id, [.slot 5], none⟩,
        ⟨(some 32), none, .lensl, [.slot 31], none⟩,
        ⟨(some 33), none, .bin .gtr, [.slot 32, .val (.int .i64 0)], none⟩])
      (.cond (.slot 33)
       (.seq
        (.region [
          ⟨(some 34), none, .id, [.slot 5], none⟩,
          ⟨(some 35), none, .id, [.slot 5], none⟩,
          ⟨(some 36), none, .lensl, [.slot 35], none⟩,
          ⟨(some 37), none, .bin .sub, [.slot 36, .val (.int .i64 1)], none⟩,
          ⟨(some 38), none, .ixaddr 3, [.slot 34, .slot 37], none⟩,
          ⟨(some 39), none, .load 3 true, [.slot 38], none⟩,
          ⟨none, none, .store 3, [.slot 4, .slot 39], none⟩])
        (.ret))
       (.skip))))
    (.seq
     (.region [
       ⟨(some 40), none, .build [(.int .i64 0), (.int .i64 0), (.str ⟨#[]⟩)] [], [], none⟩,
       ⟨none, none, .store 3, [.slot 4, .slot 40], none⟩])
     (.ret))))
def F_eval_reckoner_leaf : IFun := ⟨41, [.cell 4 3 true], b_eval_reckoner_leaf, 3, 0⟩
theorem c_eval_reckoner_leaf : cFun Tryd.prog [1048579, 1048580] 0 f_eval_reckoner_leaf = some F_eval_reckoner_leaf := by kernel_rfl

def b_eval_one : ICode :=
 .seq
  (.region [
    ⟨(some 3), none, .boxL, [.slot 1], none⟩,
    ⟨(some 4), none, .allocL [(.int .i64 0), (.int .i64 0), (.str ⟨#[]⟩)], [], none⟩])
  (.seq
   (.region [
     ⟨(some 6), none, .load 3 true, [.slot 3], none⟩,
     ⟨(some 7), none, .build [(.int .i64 0), (.int .i64 0), (.str ⟨#[]⟩)] [], [], none⟩,
     ⟨(some 8), none, .eqv false [(.int .i64), (.int .i64), .str], [.slot 6, .slot 7], none⟩,
     ⟨(some 5), none, .id, [.slot 8], none⟩])
   (.seq
    (.block 0
     (.seq
      (.region [
        ⟨(some 10), none, .id, [.slot 0], none⟩,
        ⟨(some 11), none, .bin .eql, [.slot 10, .val (.int .i64 6)], none⟩,
        ⟨(some 9), none, .id, [.slot 11], none⟩])
      (.cond (.slot 9)
       (.seq
        (.region [
          ⟨(some 12), none, .id, [.slot 5], none⟩,
          ⟨(some 13), none, .call f_eval_boolean, [.slot 12], none⟩,
          ⟨none, none, .store 3, [.slot 4, .slot 13], none⟩])
        (.ret))
       (.seq
        (.region [
          ⟨(some 15), none, .id, [.slot 0], none⟩,
          ⟨(some 16), none, .bin .eql, [.slot 15, .val (.int .i64 7)], none⟩,
          ⟨(some 14), none, .id, [.slot 16], none⟩])
        (.cond (.slot 14)
         (.seq
          (.region [
            ⟨(some 17), none, .id, [.slot 5], none⟩,
            ⟨(some 18), none, .un .not, [.slot 17], none⟩,
            ⟨(some 19), none, .call f_eval_boolean, [.slot 18], none⟩,
            ⟨none, none, .store 3, [.slot 4, .slot 19], none⟩])
          (.ret))
         (.seq
          (.region [
            ⟨(some 21), none, .faddr 0, [.slot 3], none⟩,
            ⟨(some 22), none, .load 1 false, [.slot 21], none⟩,
            ⟨(some 23), none, .bin .neq, [.slot 22, .val (.int .i64 1)], none⟩,
            ⟨(some 20), none, .id, [.slot 23], none⟩])
          (.cond (.slot 20)
           (.seq
            (.region [
              ⟨(some 24), none, .build [(.int .i64 0), (.int .i64 0), (.str ⟨#[]⟩)] [], [], none⟩,
              ⟨none, none, .store 3, [.slot 4, .slot 24], none⟩])
            (.ret))
           (.skip))))))))
    (.seq
     (.region [
       ⟨(some 25), none, .faddr 1, [.slot 3], none⟩,
       ⟨(some 26), none, .load 1 false, [.slot 25], none⟩,
       ⟨(some 27), none, .bin .eql, [.slot 26, .val (.int .i64 0)], none⟩,
       ⟨(some 28), none, .call f_eval_boolean, [.slot 27], none⟩,
       ⟨none, none, .store 3, [.slot 4, .slot 28], none⟩])
     (.ret))))
def F_eval_one : IFun := ⟨29, [.cell 4 3 true], b_eval_one, 3, 2⟩
theorem c_eval_one : cFun Tryd.prog [1048579, 1048580, 2097189] 2 f_eval_one = some F_eval_one := by kernel_rfl

def b_eval_logic : ICode :=
 .seq
  (.region [
    ⟨(some 3), none, .boxL, [.slot 0], none⟩,
    ⟨(some 4), none, .boxL, [.slot 1], none⟩,
    ⟨(some 6), none, .allocL [(.int .i64 0), (.int .i64 0), (.str ⟨#[]⟩)], [], none⟩])
  (.seq
   (.region [
     ⟨(some 9), none, .id, [.slot 2], none⟩,
     ⟨(some 10), none, .call f_eval_boolean, [.slot 9], none⟩,
     ⟨(some 11), none, .id, [.slot 2], none⟩,
     ⟨(some 12), none, .un .not, [.slot 11], none⟩,
     ⟨(some 13), none, .call f_eval_boolean, [.slot 12], none⟩,
     ⟨(some 7), none, .allocL [(.int .i64 0), (.int .i64 0), (.str ⟨#[]⟩)], [], none⟩,
     ⟨(some 8), none, .allocL [(.int .i64 0), (.int .i64 0), (.str ⟨#[]⟩)], [], none⟩,
     ⟨none, none, .store 3, [.slot 7, .slot 10], none⟩,
     ⟨none, none, .store 3, [.slot 8, .slot 13], none⟩])
   (.seq
    (.block 0
     (.seq
      (.region [
        ⟨(some 15), none, .load 3 true, [.slot 3], none⟩,
        ⟨(some 16), none, .load 3 true, [.slot 7], none⟩,
        ⟨(some 17), none, .eqv false [(.int .i64), (.int .i64), .str], [.slot 15, .slot 16], none⟩,
        ⟨(some 18), none, .id, [.slot 17], none⟩,
        ⟨(some 19), (some (18, false)), .load 3 true, [.slot 4], none⟩,
        ⟨(some 20), (some (18, false)), .load 3 true, [.slot 7], none⟩,
        ⟨(some 21), (some (18, false)), .eqv false [(.int .i64), (.int .i64), .str], [.slot 19, .slot 20], none⟩,
        ⟨(some 22), none, .pick, [.slot 18, .val (.bool true), .slot 21], none⟩,
        ⟨(some 14), none, .id, [.slot 22], none⟩])
      (.cond (.slot 14)
       (.seq
        (.region [
          ⟨(some 23), none, .load 3 true, [.slot 7], none⟩,
          ⟨none, none, .store 3, [.slot 6, .slot 23], none⟩])
        (.ret))
       (.seq
        (.region [
          ⟨(some 25), none, .load 3 true, [.slot 3], none⟩,
          ⟨(some 26), none, .load 3 true, [.slot 8], none⟩,
          ⟨(some 27), none, .eqv false [(.int .i64), (.int .i64), .str], [.slot 25, .slot 26], none⟩,
          ⟨(some 28), none, .id, [.slot 27], none⟩,
          ⟨(some 29), (some (28, true)), .load 3 true, [.slot 4], none⟩,
          ⟨(some 30), (some (28, true)), .load 3 true, [.slot 8], none⟩,
          ⟨(some 31), (some (28, true)), .eqv false [(.int .i64), (.int .i64), .str], [.slot 29, .slot 30], none⟩,
          ⟨(some 32), none, .pick, [.slot 28, .slot 31, .val (.bool false)], none⟩,
          ⟨(some 24), none, .id, [.slot 32], none⟩])
        (.cond (.slot 24)
         (.seq
          (.region [
            ⟨(some 33), none, .load 3 true, [.slot 8], none⟩,
            ⟨none, none, .store 3, [.slot 6, .slot 33], none⟩])
          (.ret))
         (.skip))))))
    (.seq
     (.region [
       ⟨(some 34), none, .build [(.int .i64 0), (.int .i64 0), (.str ⟨#[]⟩)] [], [], none⟩,
       ⟨none, none, .store 3, [.slot 6, .slot 34], none⟩])
     (.ret))))
def F_eval_logic : IFun := ⟨35, [.cell 6 3 true], b_eval_logic, 3, 2⟩
theorem c_eval_logic : cFun Tryd.prog [1048579, 1048580, 1048582, 1048583, 1048584, 2097189] 2 f_eval_logic = some F_eval_logic := by kernel_rfl

def b_eval_compared : ICode :=
 .seq
  (.region [
    ⟨(some 4), none, .boxL, [.slot 1], none⟩,
    ⟨(some 5), none, .boxL, [.slot 2], none⟩,
    ⟨(some 6), none, .allocL [(.int .i64 0), (.int .i64 0), (.str ⟨#[]⟩)], [], none⟩])
  (.seq
   (.region [
     ⟨(some 10), none, .build [(.int .i64 0), (.int .i64 0), (.str ⟨#[]⟩)] [], [], none⟩,
     ⟨(some 7), none, .allocL [(.int .i64 0), (.int .i64 0), (.str ⟨#[]⟩)], [], none⟩,
     ⟨none, none, .store 3, [.slot 7, .slot 10], none⟩])
   (.seq
    (.region [
      ⟨(some 11), none, .id, [.slot 0], none⟩,
      ⟨(some 12), none, .bin .eql, [.slot 11, .val (.int .i64 10)], none⟩,
      ⟨(some 13), none, .id, [.slot 12], none⟩,
      ⟨(some 14), (some (13, false)), .id, [.slot 0], none⟩,
      ⟨(some 15), (some (13, false)), .bin .eql, [.slot 14, .val (.int .i64 11)], none⟩,
      ⟨(some 16), none, .pick, [.slot 13, .val (.bool true), .slot 15], none⟩,
      ⟨(some 8), none, .id, [.slot 16], none⟩])
    (.seq
     (.block 0
      (.seq
       (.region [
         ⟨(some 18), none, .id, [.slot 8], none⟩,
         ⟨(some 19), none, .id, [.slot 18], none⟩,
         ⟨(some 20), (some (19, true)), .load 3 true, [.slot 4], none⟩,
         ⟨(some 21), (some (19, true)), .load 3 true, [.slot 7], none⟩,
         ⟨(some 22), (some (19, true)), .eqv false [(.int .i64), (.int .i64), .str], [.slot 20, .slot 21], none⟩,
         ⟨(some 23), (some (19, true)), .id, [.slot 22], none⟩,
         ⟨(some 24), (some (23, false)), .load 3 true, [.slot 5], none⟩,
         ⟨(some 25), (some (23, false)), .load 3 true, [.slot 7], none⟩,
         ⟨(some 26), (some (23, false)), .eqv false [(.int .i64), (.int .i64), .str], [.slot 24, .slot 25], none⟩,
         ⟨(some 27), (some (19, true)), .pick, [.slot 23, .val (.bool true), .slot 26], none⟩,
         ⟨(some 28), none, .pick, [.slot 19, .slot 27, .val (.bool false)], none⟩,
         ⟨(some 17), none, .id, [.slot 28], none⟩])
       (.cond (.slot 17)
        (.seq
         (.region [
           ⟨(some 29), none, .load 3 true, [.slot 7], none⟩,
           ⟨none, none, .store 3, [.slot 6, .slot 29], none⟩])
         (.ret))
        (.seq
         (.region [
           ⟨(some 31), none, .id, [.slot 8], none⟩,
           ⟨(some 30), none, .id, [.slot 31], none⟩])
         (.cond (.slot 30)
          (.seq
           (.region [
             ⟨(some 32), none, .load 3 true, [.slot 4], none⟩,
             ⟨(some 33), none, .load 3 true, [.slot 5], none⟩,
             ⟨(some 34), none, .eqv false [(.int .i64), (.int .i64), .str], [.slot 32, .slot 33], none⟩,
             ⟨(some 35), none, .id, [.slot 0], none⟩,
             ⟨(some 36), none, .bin .eql, [.slot 35, .val (.int .i64 10)], none⟩,
             ⟨(some 37), none, .eq1 false .bool, [.slot 34, .slot 36], none⟩,
             ⟨(some 38), none, .call f_eval_boolean, [.slot 37], none⟩,
             ⟨none, none, .store 3, [.slot 6, .slot 38], none⟩])
           (.ret))
          (.seq
           (.region [
             ⟨(some 40), none, .faddr 0, [.slot 4], none⟩,
             ⟨(some 41), none, .load 1 false, [.slot 40], none⟩,
             ⟨(some 42), none, .faddr 0, [.slot 5], none⟩,
             ⟨(some 43), none, .load 1 false, [.slot 42], none⟩,
             ⟨(some 44), none, .bin .neq, [.slot 41, .slot 43], none⟩,
             ⟨(some 45), none, .id, [.slot 44], none⟩,
             ⟨(some 46), (some (45, false)), .faddr 0, [.slot 4], none⟩,
             ⟨(some 47), (some (45, false)), .load 1 false, [.slot 46], none⟩,
             ⟨(some 48), (some (45, false)), .bin .lss, [.slot 47, .val (.int .i64 1)], none⟩,
             ⟨(some 49), none, .pick, [.slot 45, .val (.bool true), .slot 48], none⟩,
             ⟨(some 50), none, .id, [.slot 49], none⟩,
             ⟨(some 51), (some (50, false)), .faddr 0, [.slot 4], none⟩,
             ⟨(some 52), (some (50, false)), .load 1 false, [.slot 51], none⟩,
             ⟨(some 53), (some (50, false)), .bin .gtr, [.slot 52, .val (.int .i64 3)], none⟩,
             ⟨(some 54), none, .pick, [.slot 50, .val (.bool true), .slot 53], none⟩,
             ⟨(some 39), none, .id, [.slot 54], none⟩])
           (.cond (.slot 39)
            (.seq
             (.region [
               ⟨(some 55), none, .load 3 true, [.slot 7], none⟩,
               ⟨none, none, .store 3, [.slot 6, .slot 55], none⟩])
             (.ret))
            (.skip))))))))
     (.seq
      (.region [
        ⟨(some 56), none, .load 3 true, [.slot 4], none⟩,
        ⟨(some 57), none, .load 3 true, [.slot 5], none⟩,
        ⟨(some 58), none, .call f_value_Compare, [.slot 56, .slot 57], none⟩,
        ⟨(some 9), none, .id, [.slot 58], none⟩])
      (.seq
       (.seq
        (.region [
          ⟨(some 59), none, .id, [.slot 0], none⟩])
        (.block 1
         (.seq
          (.region [
            ⟨(some 61), none, .bin .eql, [.slot 59, .val (.int .i64 12)], none⟩,
            ⟨(some 60), none, .id, [.slot 61], none⟩])
          (.cond (.slot 60)
           (.seq
            (.region [
              ⟨(some 62), none, .id, [.slot 9], none⟩,
              ⟨(some 63), none, .bin .lss, [.slot 62, .val (.int .i64 0)], none⟩,
              ⟨(some 64), none, .call f_eval_boolean, [.slot 63], none⟩,
              ⟨none, none, .store 3, [.slot 6, .slot 64], none⟩])
            (.ret))
           (.seq
            (.region [
              ⟨(some 66), none, .bin .eql, [.slot 59, .val (.int .i64 13)], none⟩,
              ⟨(some 65), none, .id, [.slot 66], none⟩])
            (.cond (.slot 65)
             (.seq
              (.region [
                ⟨(some 67), none, .id, [.slot 9], none⟩,
                ⟨(some 68), none, .bin .leq, [.slot 67, .val (.int .i64 0)], none⟩,
                ⟨(some 69), none, .call f_eval_boolean, [.slot 68], none⟩,
                ⟨none, none, .store 3, [.slot 6, .slot 69], none⟩])
              (.ret))
             (.seq
              (.region [
                ⟨(some 71), none, .bin .eql, [.slot 59, .val (.int .i64 14)], none⟩,
                ⟨(some 70), none, .id, [.slot 71], none⟩])
              (.cond (.slot 70)
               (.seq
                (.region [
                  ⟨(some 72), none, .id, [.slot 9], none⟩,
                  ⟨(some 73), none, .bin .gtr, [.slot 72, .val (.int .i64 0)], none⟩,
                  ⟨(some 74), none, .call f_eval_boolean, [.slot 73], none⟩,
                  ⟨none, none, .store 3, [.slot 6, .slot 74], none⟩])
                (.ret))
               (.skip)))))))))
       (.seq
        (.region [
          ⟨(some 75), none, .id, [.slot 9], none⟩,
          ⟨(some 76), none, .bin .geq, [.slot 75, .val (.int .i64 0)], none⟩,
          ⟨(some 77), none, .call f_eval_boolean, [.slot 76], none⟩,
          ⟨none, none, .store 3, [.slot 6, .slot 77], none⟩])
        (.ret)))))))
def F_eval_compared : IFun := ⟨78, [.cell 6 3 true], b_eval_compared, 3, 2⟩
theorem c_eval_compared : cFun Tryd.prog [1048580, 1048581, 1048582, 1048583, 2097189] 2 f_eval_compared = some F_eval_compared := by kernel_rfl

def b_eval_reckoned : ICode :=
 .seq
  (.region [
    ⟨(some 4), none, .boxL, [.slot 1], none⟩,
    ⟨(some 5), none, .boxL, [.slot 2], none⟩,
    ⟨(some 6), none, .allocL [(.int .i64 0), (.int .i64 0), (.str ⟨#[]⟩)], [], none⟩])
  (.seq
   (.block 0
    (.seq
     (.region [
       ⟨(some 8), none, .faddr 0, [.slot 4], none⟩,
       ⟨(some 9), none, .load 1 false, [.slot 8], none⟩,
       ⟨(some 10), none, .bin .neq, [.slot 9, .val (.int .i64 2)], none⟩,
       ⟨(some 11), none, .id, [.slot 10], none⟩,
       ⟨(some 12), (some (11, false)), .faddr 0, [.slot 5], none⟩,
       ⟨(some 13), (some (11, false)), .load 1 false, [.slot 12], none⟩,
       ⟨(some 14), (some (11, false)), .bin .neq, [.slot 13, .val (.int .i64 2)], none⟩,
       ⟨(some 15), none, .pick, [.slot 11, .val (.bool true), .slot 14], none⟩,
       ⟨(some 7), none, .id, [.slot 15], none⟩])
     (.cond (.slot 7)
      (.seq
       (.region [
         ⟨(some 16), none, .build [(.int .i64 0), (.int .i64 0), (.str ⟨#[]⟩)] [], [], none⟩,
         ⟨none, none, .store 3, [.slot 6, .slot 16], none⟩])
       (.ret))
      (.seq
       (.region [
         ⟨(some 18), none, .id, [.slot 0], none⟩,
         ⟨(some 19), none, .bin .eql, [.slot 18, .val (.int .i64 16)], none⟩,
         ⟨(some 17), none, .id, [.slot 19], none⟩])
       (.cond (.slot 17)
        (.seq
         (.region [
           ⟨(some 20), none, .faddr 1, [.slot 4], none⟩,
           ⟨(some 21), none, .load 1 false, [.slot 20], none⟩,
           ⟨(some 22), none, .faddr 1, [.slot 5], none⟩,
           ⟨(some 23), none, .load 1 false, [.slot 22], none⟩,
           ⟨(some 24), none, .bin .add, [.slot 21, .slot 23], none⟩,
           ⟨(some 25), none, .call f_eval_number, [.slot 24], none⟩,
           ⟨none, none, .store 3, [.slot 6, .slot 25], none⟩])
         (.ret))
        (.seq
         (.region [
           ⟨(some 27), none, .id, [.slot 0], none⟩,
           ⟨(some 28), none, .bin .eql, [.slot 27, .val (.int .i64 17)], none⟩,
           ⟨(some 26), none, .id, [.slot 28], none⟩])
         (.cond (.slot 26)
          (.seq
           (.region [
             ⟨(some 29), none, .faddr 1, [.slot 4], none⟩,
             ⟨(some 30), none, .load 1 false, [.slot 29], none⟩,
             ⟨(some 31), none, .faddr 1, [.slot 5], none⟩,
             ⟨(some 32), none, .load 1 false, [.slot 31], none⟩,
             ⟨(some 33), none, .bin .sub, [.slot 30, .slot 32], none⟩,
             ⟨(some 34), none, .call f_eval_number, [.slot 33], none⟩,
             ⟨none, none, .store 3, [.slot 6, .slot 34], none⟩])
           (.ret))
          (.skip))))))))
   (.seq
    (.region [
      ⟨(some 35), none, .faddr 1, [.slot 4], none⟩,
      ⟨(some 36), none, .load 1 false, [.slot 35], none⟩,
      ⟨(some 37), none, .faddr 1, [.slot 5], none⟩,
      ⟨(some 38), none, .load 1 false, [.slot 37], none⟩,
      ⟨(some 39), none, .call f_eval_product, [.slot 36, .slot 38], none⟩,
      ⟨none, none, .store 3, [.slot 6, .slot 39], none⟩])
    (.ret)))
def F_eval_reckoned : IFun := ⟨40, [.cell 6 3 true], b_eval_reckoned, 3, 0⟩
theorem c_eval_reckoned : cFun Tryd.prog [1048580, 1048581, 1048582] 0 f_eval_reckoned = some F_eval_reckoned := by kernel_rfl

def L0_value_names : ICode :=
 .seq
  (.region [
    ⟨(some 8), none, .bin .lss, [.slot 7, .slot 6], none⟩])
  (.seq
   (.cond (.slot 8)
    (.skip)
    (.exit 0))
   (.seq
    (.block 1
     (.seq
      (.region [
        ⟨(some 9), none, .ixaddr 1, [.slot 5, .slot 7], none⟩,
        ⟨(some 10), none, .load 1 false, [.slot 9], none⟩,
        ⟨(some 4), none, .id, [.slot 10], none⟩])
      (.seq
       (.region [
         ⟨(some 11), none, .id, [.slot 4], none⟩,
         ⟨(some 12), none, .call f_value_Name, [.slot 11], none⟩,
         ⟨(some 13), none, .un .not, [.slot 12], none⟩])
       (.cond (.slot 13)
        (.seq
         (.region [
           ⟨(some 2), none, .id, [.val (.bool false)], none⟩])
         (.ret))
        (.skip)))))
    (.region [
      ⟨(some 14), none, .bin .add, [.slot 7, .val (.int .i64 1)], none⟩,
      ⟨(some 7), none, .id, [.slot 14], none⟩])))
def b_value_names : ICode :=
 .seq
  (.region [
    ⟨(some 2), none, .id, [.val (.bool false)], none⟩])
  (.seq
   (.seq
    (.region [
      ⟨(some 5), none, .id, [.slot 0], none⟩,
      ⟨(some 6), none, .lensl, [.slot 5], none⟩,
      ⟨(some 7), none, .id, [.val (.int .i64 0)], none⟩])
    (.block 0
     (.loop L0_value_names)))
   (.seq
    (.region [
      ⟨(some 2), none, .id, [.val (.bool true)], none⟩])
    (.ret)))
def F_value_names : IFun := ⟨15, [.slot 2], b_value_names, 3, 0⟩
theorem c_value_names : cFun Tryd.prog [] 0 f_value_names = some F_value_names := by kernel_rfl

def b_cmp_isNaNint : ICode :=
 .seq
  (.region [
    ⟨(some 2), none, .id, [.val (.bool false)], none⟩])
  (.seq
   (.region [
     ⟨(some 3), none, .id, [.slot 0], none⟩,
     ⟨(some 4), none, .id, [.slot 0], none⟩,
     ⟨(some 5), none, .bin .neq, [.slot 3, .slot 4], none⟩,
     ⟨(some 2), none, .id, [.slot 5], none⟩])
   (.ret))
def F_cmp_isNaNint : IFun := ⟨6, [.slot 2], b_cmp_isNaNint, 3, 0⟩
theorem c_cmp_isNaNint : cFun Tryd.prog [] 0 f_cmp_isNaNint = some F_cmp_isNaNint := by kernel_rfl

def b_cmp_isNaNstring : ICode :=
 .seq
  (.region [
    ⟨(some 2), none, .id, [.val (.bool false)], none⟩])
  (.seq
   (.region [
     ⟨(some 3), none, .id, [.slot 0], none⟩,
     ⟨(some 4), none, .id, [.slot 0], none⟩,
     ⟨(some 5), none, .bin .neq, [.slot 3, .slot 4], none⟩,
     ⟨(some 2), none, .id, [.slot 5], none⟩])
   (.ret))
def F_cmp_isNaNstring : IFun := ⟨6, [.slot 2], b_cmp_isNaNstring, 3, 0⟩
theorem c_cmp_isNaNstring : cFun Tryd.prog [] 0 f_cmp_isNaNstring = some F_cmp_isNaNstring := by kernel_rfl

def b_eval_Env_find_1 : ICode :=
 .seq
  (.region [
    ⟨(some 2), none, .boxL, [.slot 0], none⟩,
    ⟨(some 3), none, .id, [.val (.bool false)], none⟩])
  (.seq
   (.region [
     ⟨(some 4), none, .faddr 0, [.slot 2], none⟩,
     ⟨(some 5), none, .load 1 false, [.slot 4], none⟩,
     ⟨(some 6), none, .load 1 false, [.slot 1], none⟩,
     ⟨(some 7), none, .bin .eql, [.slot 5, .slot 6], none⟩,
     ⟨(some 3), none, .id, [.slot 7], none⟩])
   (.ret))
def F_eval_Env_find_1 : IFun := ⟨8, [.slot 3], b_eval_Env_find_1, 3, 0⟩
theorem c_eval_Env_find_1 : cFun Tryd.prog [1048578] 0 f_eval_Env_find_1 = some F_eval_Env_find_1 := by kernel_rfl

def b_value_letter : ICode :=
 .seq
  (.region [
    ⟨(some 2), none, .id, [.val (.bool false)], none⟩])
  (.seq
   (.region [
     ⟨(some 3), none, .id, [.slot 0], none⟩,
     ⟨(some 4), none, .bin .geq, [.slot 3, .val (.int .u8 97)], none⟩,
     ⟨(some 5), none, .id, [.slot 4], none⟩,
     ⟨(some 6), (some (5, true)), .id, [.slot 0], none⟩,
     ⟨(some 7), (some (5, true)), .bin .leq, [.slot 6, .val (.int .u8 122)], none⟩,
     ⟨(some 8), none, .pick, [.slot 5, .slot 7, .val (.bool false)], none⟩,
     ⟨(some 9), none, .id, [.slot 8], none⟩,
     ⟨(some 10), (some (9, false)), .id, [.slot 0], none⟩,
     ⟨(some 11), (some (9, false)), .bin .geq, [.slot 10, .val (.int .u8 65)], none⟩,
     ⟨(some 12), (some (9, false)), .id, [.slot 11], none⟩,
     ⟨(some 13), (some (12, true)), .id, [.slot 0], none⟩,
     ⟨(some 14), (some (12, true)), .bin .leq, [.slot 13, .val (.int .u8 90)], none⟩,
     ⟨(some 15), (some (9, false)), .pick, [.slot 12, .slot 14, .val (.bool false)], none⟩,
     ⟨(some 16), none, .pick, [.slot 9, .val (.bool true), .slot 15], none⟩,
     ⟨(some 2), none, .id, [.slot 16], none⟩])
   (.ret))
def F_value_letter : IFun := ⟨17, [.slot 2], b_value_letter, 3, 0⟩
theorem c_value_letter : cFun Tryd.prog [] 0 f_value_letter = some F_value_letter := by kernel_rfl

def b_value_inner : ICode :=
 .seq
  (.region [
    ⟨(some 2), none, .id, [.val (.bool false)], none⟩])
  (.seq
   (.region [
     ⟨(some 3), none, .id, [.slot 0], none⟩,
     ⟨(some 4), none, .call f_value_letter, [.slot 3], none⟩,
     ⟨(some 5), none, .id, [.slot 4], none⟩,
     ⟨(some 6), (some (5, false)), .id, [.slot 0], none⟩,
     ⟨(some 7), (some (5, false)), .bin .geq, [.slot 6, .val (.int .u8 48)], none⟩,
     ⟨(some 8), (some (5, false)), .id, [.slot 7], none⟩,
     ⟨(some 9), (some (8, true)), .id, [.slot 0], none⟩,
     ⟨(some 10), (some (8, true)), .bin .leq, [.slot 9, .val (.int .u8 57)], none⟩,
     ⟨(some 11), (some (5, false)), .pick, [.slot 8, .slot 10, .val (.bool false)], none⟩,
     ⟨(some 12), none, .pick, [.slot 5, .val (.bool true), .slot 11], none⟩,
     ⟨(some 13), none, .id, [.slot 12], none⟩,
     ⟨(some 14), (some (13, false)), .id, [.slot 0], none⟩,
     ⟨(some 15), (some (13, false)), .bin .eql, [.slot 14, .val (.int .u8 95)], none⟩,
     ⟨(some 16), none, .pick, [.slot 13, .val (.bool true), .slot 15], none⟩,
     ⟨(some 2), none, .id, [.slot 16], none⟩])
   (.ret))
def F_value_inner : IFun := ⟨17, [.slot 2], b_value_inner, 3, 0⟩
theorem c_value_inner : cFun Tryd.prog [] 0 f_value_inner = some F_value_inner := by kernel_rfl

def b_strings_Split : ICode :=
 .seq
  (.region [
    ⟨(some 4), none, .id, [.val .nilsl], none⟩])
  (.seq
   (.region [
     ⟨(some 5), none, .id, [.slot 0], none⟩,
     ⟨(some 6), none, .id, [.slot 1], none⟩,
     ⟨(some 7), none, .call f_strings_genSplit, [.slot 5, .slot 6, .val (.int .i64 0), .val (.int .i64 (-1))], none⟩,
     ⟨(some 4), none, .id, [.slot 7], none⟩])
   (.ret))
def F_strings_Split : IFun := ⟨8, [.slot 4], b_strings_Split, 3, 0⟩
theorem c_strings_Split : cFun Tryd.prog [] 0 f_strings_Split = some F_strings_Split := by kernel_rfl

def b_expr_name : ICode :=
 .seq
  (.region [
    ⟨(some 2), none, .id, [.val (.bool false)], none⟩])
  (.seq
   (.region [
     ⟨(some 3), none, .id, [.slot 0], none⟩,
     ⟨(some 4), none, .call f_value_Name, [.slot 3], none⟩,
     ⟨(some 5), none, .id, [.slot 4], none⟩,
     ⟨(some 6), (some (5, true)), .call f_lex_Words, [], none⟩,
     ⟨(some 7), (some (5, true)), .id, [.slot 0], none⟩,
     ⟨(some 8), (some (5, true)), .call f_slices_Containsstringstring, [.slot 6, .slot 7], none⟩,
     ⟨(some 9), (some (5, true)), .un .not, [.slot 8], none⟩,
     ⟨(some 10), none, .pick, [.slot 5, .slot 9, .val (.bool false)], none⟩,
     ⟨(some 2), none, .id, [.slot 10], none⟩])
   (.ret))
def F_expr_name : IFun := ⟨11, [.slot 2], b_expr_name, 3, 0⟩
theorem c_expr_name : cFun Tryd.prog [] 0 f_expr_name = some F_expr_name := by kernel_rfl

def b_eval_number : ICode :=
 .seq
  (.region [
    ⟨(some 2), none, .allocL [(.int .i64 0), (.int .i64 0), (.str ⟨#[]⟩)], [], none⟩])
  (.seq
   (.region [
     ⟨(some 3), none, .id, [.slot 0], none⟩,
     ⟨(some 4), none, .minmax true, [.slot 3, .val (.int .i64 (-1099511627776))], none⟩,
     ⟨(some 5), none, .minmax false, [.slot 4, .val (.int .i64 1099511627776)], none⟩,
     ⟨(some 6), none, .build [(.int .i64 0), (.int .i64 0), (.str ⟨#[]⟩)] [(0, 1), (1, 1)], [.val (.int .i64 2), .slot 5], none⟩,
     ⟨none, none, .store 3, [.slot 2, .slot 6], none⟩])
   (.ret))
def F_eval_number : IFun := ⟨7, [.cell 2 3 true], b_eval_number, 3, 0⟩
theorem c_eval_number : cFun Tryd.prog [1048578] 0 f_eval_number = some F_eval_number := by kernel_rfl

def b_eval_reckoner_values : ICode :=
 .seq
  (.region [
    ⟨(some 3), none, .boxL, [.slot 1], none⟩,
    ⟨(some 4), none, .id, [.val .nilsl], none⟩])
  (.seq
   (.seq
    (.region [
      ⟨(some 8), none, .id, [.slot 0], none⟩,
      ⟨(some 9), none, .nilchk, [.slot 8], none⟩,
      ⟨(some 10), none, .faddr 1, [.slot 9], none⟩,
      ⟨(some 11), none, .load 1 false, [.slot 10], (some (.heap))⟩,
      ⟨(some 12), none, .faddr 4, [.slot 3], none⟩,
      ⟨(some 13), none, .load 1 false, [.slot 12], (some (.loc 3))⟩,
      ⟨(some 14), none, .call f_eval_Env_Get, [.slot 11, .slot 13], none⟩,
      ⟨(some 5), none, .allocK 7 [(.int .i64 0), (.int .i64 0), (.str ⟨#[]⟩)], [], none⟩,
      ⟨none, none, .store 3, [.slot 5, .slot 14], (some (.loc 5))⟩])
    (.bump 9))
   (.seq
    (.seq
     (.region [
       ⟨(some 16), none, .load 3 true, [.slot 5], none⟩,
       ⟨(some 17), none, .call f_value_Link, [.slot 16], none⟩,
       ⟨(some 15), none, .id, [.slot 17], none⟩,
       ⟨(some 18), none, .extract 0, [.slot 15], none⟩,
       ⟨(some 19), none, .extract 1, [.slot 15], none⟩,
       ⟨(some 6), none, .allocL [(.str ⟨#[]⟩), (.str ⟨#[]⟩), (.str ⟨#[]⟩)], [], none⟩,
       ⟨none, none, .store 3, [.slot 6, .slot 18], none⟩,
       ⟨(some 7), none, .id, [.slot 19], none⟩])
     (.seq
      (.region [
        ⟨(some 20), none, .id, [.slot 7], none⟩])
      (.cond (.slot 20)
       (.seq
        (.region [
          ⟨(some 21), none, .id, [.slot 0], none⟩,
          ⟨(some 22), none, .nilchk, [.slot 21], none⟩,
          ⟨(some 23), none, .faddr 2, [.slot 22], none⟩,
          ⟨(some 24), none, .load 1 false, [.slot 23], (some (.heap))⟩,
          ⟨(some 25), none, .faddr 0, [.slot 6], none⟩,
          ⟨(some 26), none, .load 1 false, [.slot 25], (some (.loc 6))⟩,
          ⟨(some 27), none, .faddr 1, [.slot 6], none⟩,
          ⟨(some 28), none, .load 1 false, [.slot 27], (some (.loc 6))⟩,
          ⟨(some 29), none, .faddr 2, [.slot 6], none⟩,
          ⟨(some 30), none, .load 1 false, [.slot 29], (some (.loc 6))⟩,
          ⟨(some 31), none, .faddr 5, [.slot 3], none⟩,
          ⟨(some 32), none, .load 1 false, [.slot 31], (some (.loc 3))⟩,
          ⟨(some 33), none, .build [(.int .i64 0), (.str ⟨#[]⟩), (.str ⟨#[]⟩), (.str ⟨#[]⟩), (.str ⟨#[]⟩)] [(0, 1), (1, 1), (2, 1), (3, 1), (4, 1)], [.val (.int .i64 5), .slot 26, .slot 28, .slot 30, .slot 32], none⟩,
          ⟨(some 34), none, .call f_graph_View_Values, [.slot 24, .slot 33], none⟩,
          ⟨(some 4), none, .id, [.slot 34], none⟩])
        (.ret))
       (.skip))))
    (.seq
     (.seq
      (.region [
        ⟨(some 35), none, .faddr 0, [.slot 5], none⟩,
        ⟨(some 36), none, .load 1 false, [.slot 35], none⟩,
        ⟨(some 37), none, .bin .eql, [.slot 36, .val (.int .i64 4)], none⟩])
      (.cond (.slot 37)
       (.seq
        (.region [
          ⟨(some 38), none, .id, [.slot 0], none⟩,
          ⟨(some 39), none, .nilchk, [.slot 38], none⟩,
          ⟨(some 40), none, .faddr 2, [.slot 39], none⟩,
          ⟨(some 41), none, .load 1 false, [.slot 40], (some (.heap))⟩,
          ⟨(some 42), none, .faddr 2, [.slot 5], none⟩,
          ⟨(some 43), none, .load 1 false, [.slot 42], (some (.loc 5))⟩,
          ⟨(some 44), none, .faddr 5, [.slot 3], none⟩,
          ⟨(some 45), none, .load 1 false, [.slot 44], (some (.loc 3))⟩,
          ⟨(some 46), none, .build [(.int .i64 0), (.str ⟨#[]⟩), (.str ⟨#[]⟩), (.str ⟨#[]⟩), (.str ⟨#[]⟩)] [(0, 1), (1, 1), (4, 1)], [.val (.int .i64 4), .slot 43, .slot 45], none⟩,
          ⟨(some 47), none, .call f_graph_View_Values, [.slot 41, .slot 46], none⟩,
          ⟨(some 4), none, .id, [.slot 47], none⟩])
        (.ret))
       (.skip)))
     (.seq
      (.region [
        ⟨(some 4), none, .id, [.val .nilsl], none⟩])
      (.ret)))))
def F_eval_reckoner_values : IFun := ⟨48, [.slot 4], b_eval_reckoner_values, 3, 0⟩
theorem c_eval_reckoner_values : cFun Tryd.prog [1048579, 1048581, 1048582] 0 f_eval_reckoner_values = some F_eval_reckoner_values := by kernel_rfl

def b_value_Compare : ICode :=
 .seq
  (.region [
    ⟨(some 2), none, .boxL, [.slot 0], none⟩,
    ⟨(some 3), none, .boxL, [.slot 1], none⟩,
    ⟨(some 4), none, .id, [.val (.int .i64 0)], none⟩])
  (.seq
   (.region [
     ⟨(some 5), none, .faddr 0, [.slot 2], none⟩,
     ⟨(some 6), none, .load 1 false, [.slot 5], (some (.loc 2))⟩,
     ⟨(some 7), none, .faddr 0, [.slot 3], none⟩,
     ⟨(some 8), none, .load 1 false, [.slot 7], (some (.loc 3))⟩,
     ⟨(some 9), none, .call f_cmp_Compareint, [.slot 6, .slot 8], none⟩,
     ⟨(some 10), none, .faddr 1, [.slot 2], none⟩,
     ⟨(some 11), none, .load 1 false, [.slot 10], (some (.loc 2))⟩,
     ⟨(some 12), none, .faddr 1, [.slot 3], none⟩,
     ⟨(some 13), none, .load 1 false, [.slot 12], (some (.loc 3))⟩,
     ⟨(some 14), none, .call f_cmp_Compareint, [.slot 11, .slot 13], none⟩,
     ⟨(some 15), none, .faddr 2, [.slot 2], none⟩,
     ⟨(some 16), none, .load 1 false, [.slot 15], (some (.loc 2))⟩,
     ⟨(some 17), none, .faddr 2, [.slot 3], none⟩,
     ⟨(some 18), none, .load 1 false, [.slot 17], (some (.loc 3))⟩,
     ⟨(some 19), none, .call f_cmp_Comparestring, [.slot 16, .slot 18], none⟩,
     ⟨(some 20), none, .buildSl 1 3 (.int .i64 0) [0, 1, 2], [.slot 9, .slot 14, .slot 19], none⟩,
     ⟨(some 21), none, .call f_cmp_Orint, [.slot 20], none⟩,
     ⟨(some 4), none, .id, [.slot 21], none⟩])
   (.ret))
def F_value_Compare : IFun := ⟨22, [.slot 4], b_value_Compare, 3, 0⟩
theorem c_value_Compare : cFun Tryd.prog [1048578, 1048579] 0 f_value_Compare = some F_value_Compare := by kernel_rfl

def b_eval_product : ICode :=
 .seq
  (.region [
    ⟨(some 4), none, .allocL [(.int .i64 0), (.int .i64 0), (.str ⟨#[]⟩)], [], none⟩])
  (.seq
   (.region [
     ⟨(some 7), none, .id, [.slot 0], none⟩,
     ⟨(some 8), none, .id, [.slot 1], none⟩,
     ⟨(some 9), none, .bin .mul, [.slot 7, .slot 8], none⟩,
     ⟨(some 5), none, .id, [.slot 9], none⟩])
   (.seq
    (.seq
     (.region [
       ⟨(some 10), none, .id, [.slot 0], none⟩,
       ⟨(some 11), none, .bin .shr, [.slot 10, .val (.int .u64 20)], none⟩,
       ⟨(some 12), none, .id, [.slot 1], none⟩,
       ⟨(some 13), none, .bin .shr, [.slot 12, .val (.int .u64 20)], none⟩,
       ⟨(some 14), none, .bin .mul, [.slot 11, .slot 13], none⟩,
       ⟨(some 6), none, .id, [.slot 14], none⟩])
     (.seq
      (.region [
        ⟨(some 15), none, .id, [.slot 6], none⟩,
        ⟨(some 16), none, .bin .gtr, [.slot 15, .val (.int .i64 2097152)], none⟩,
        ⟨(some 17), none, .id, [.slot 16], none⟩,
        ⟨(some 18), (some (17, false)), .id, [.slot 6], none⟩,
        ⟨(some 19), (some (17, false)), .bin .lss, [.slot 18, .val (.int .i64 (-2097152))], none⟩,
        ⟨(some 20), none, .pick, [.slot 17, .val (.bool true), .slot 19], none⟩])
      (.cond (.slot 20)
       (.seq
        (.region [
          ⟨(some 5), none, .id, [.val (.int .i64 1099511627776)], none⟩])
        (.seq
         (.region [
           ⟨(some 21), none, .id, [.slot 6], none⟩,
           ⟨(some 22), none, .bin .lss, [.slot 21, .val (.int .i64 0)], none⟩])
         (.cond (.slot 22)
          (.region [
            ⟨(some 23), none, .id, [.slot 5], none⟩,
            ⟨(some 24), none, .un .neg, [.slot 23], none⟩,
            ⟨(some 5), none, .id, [.slot 24], none⟩])
          (.skip))))
       (.skip))))
    (.seq
     (.region [
       ⟨(some 25), none, .id, [.slot 5], none⟩,
       ⟨(some 26), none, .call f_eval_number, [.slot 25], none⟩,
       ⟨none, none, .store 3, [.slot 4, .slot 26], none⟩])
     (.ret))))
def F_eval_product : IFun := ⟨27, [.cell 4 3 true], b_eval_product, 3, 0⟩
theorem c_eval_product : cFun Tryd.prog [1048580] 0 f_eval_product = some F_eval_product := by kernel_rfl

def L0_strings_genSplit : ICode :=
 .seq
  (.seq
   (.region [
     ⟨(some 34), none, .id, [.slot 10], none⟩,
     ⟨(some 35), none, .id, [.slot 3], none⟩,
     ⟨(some 36), none, .bin .lss, [.slot 34, .slot 35], none⟩])
   (.cond (.slot 36)
    (.skip)
    (.exit 0)))
  (.block 1
   (.seq
    (.region [
      ⟨(some 37), none, .id, [.slot 0], none⟩,
      ⟨(some 38), none, .id, [.slot 1], none⟩,
      ⟨(some 39), none, .call f_strings_Index, [.slot 37, .slot 38], none⟩,
      ⟨(some 11), none, .id, [.slot 39], none⟩])
    (.seq
     (.seq
      (.region [
        ⟨(some 40), none, .id, [.slot 11], none⟩,
        ⟨(some 41), none, .bin .lss, [.slot 40, .val (.int .i64 0)], none⟩])
      (.cond (.slot 41)
       (.exit 0)
       (.skip)))
     (.seq
      (.region [
        ⟨(some 42), none, .id, [.slot 9], none⟩,
        ⟨(some 43), none, .id, [.slot 10], none⟩,
        ⟨(some 44), none, .id, [.slot 0], none⟩,
        ⟨(some 45), none, .id, [.slot 11], none⟩,
        ⟨(some 46), none, .id, [.slot 2], none⟩,
        ⟨(some 47), none, .bin .add, [.slot 45, .slot 46], none⟩,
        ⟨(some 48), none, .slstr false true, [.slot 44, .slot 47], none⟩,
        ⟨(some 49), none, .ixaddr 1, [.slot 42, .slot 43], none⟩,
        ⟨none, none, .store 1, [.slot 49, .slot 48], none⟩])
      (.seq
       (.region [
         ⟨(some 50), none, .id, [.slot 0], none⟩,
         ⟨(some 51), none, .id, [.slot 11], none⟩,
         ⟨(some 52), none, .id, [.slot 1], none⟩,
         ⟨(some 53), none, .lenstr, [.slot 52], none⟩,
         ⟨(some 54), none, .bin .add, [.slot 51, .slot 53], none⟩,
         ⟨(some 55), none, .slstr true false, [.slot 50, .slot 54], none⟩,
         ⟨(some 0), none, .id, [.slot 55], none⟩])
       (.region [
         ⟨(some 56), none, .id, [.slot 10], none⟩,
         ⟨(some 57), none, .bin .add, [.slot 56, .val (.int .i64 1)], none⟩,
         ⟨(some 10), none, .id, [.slot 57], none⟩]))))))
def b_strings_genSplit : ICode :=
 .seq
  (.region [
    ⟨(some 8), none, .id, [.val .nilsl], none⟩])
  (.seq
   (.seq
    (.region [
      ⟨(some 12), none, .id, [.slot 3], none⟩,
      ⟨(some 13), none, .bin .eql, [.slot 12, .val (.int .i64 0)], none⟩])
    (.cond (.slot 13)
     (.seq
      (.region [
        ⟨(some 8), none, .id, [.val .nilsl], none⟩])
      (.ret))
     (.skip)))
   (.seq
    (.seq
     (.region [
       ⟨(some 14), none, .id, [.slot 1], none⟩,
       ⟨(some 15), none, .bin .eql, [.slot 14, .val (.str ⟨#[]⟩)], none⟩])
     (.cond (.slot 15)
      (.seq
       (.region [
         ⟨(some 16), none, .id, [.slot 0], none⟩,
         ⟨(some 17), none, .id, [.slot 3], none⟩,
         ⟨(some 18), none, .call f_strings_explode, [.slot 16, .slot 17], none⟩,
         ⟨(some 8), none, .id, [.slot 18], none⟩])
       (.ret))
      (.skip)))
    (.seq
     (.seq
      (.region [
        ⟨(some 19), none, .id, [.slot 3], none⟩,
        ⟨(some 20), none, .bin .lss, [.slot 19, .val (.int .i64 0)], none⟩])
      (.cond (.slot 20)
       (.region [
         ⟨(some 21), none, .id, [.slot 0], none⟩,
         ⟨(some 22), none, .id, [.slot 1], none⟩,
         ⟨(some 23), none, .call f_strings_Count, [.slot 21, .slot 22], none⟩,
         ⟨(some 24), none, .bin .add, [.slot 23, .val (.int .i64 1)], none⟩,
         ⟨(some 3), none, .id, [.slot 24], none⟩])
       (.skip)))
     (.seq
      (.region [
        ⟨(some 25), none, .id, [.slot 3], none⟩,
        ⟨(some 26), none, .id, [.slot 0], none⟩,
        ⟨(some 27), none, .lenstr, [.slot 26], none⟩,
        ⟨(some 28), none, .bin .add, [.slot 27, .val (.int .i64 1)], none⟩,
        ⟨(some 29), none, .minmax false, [.slot 25, .slot 28], none⟩,
        ⟨(some 3), none, .id, [.slot 29], none⟩])
      (.seq
       (.region [
         ⟨(some 30), none, .id, [.slot 3], none⟩,
         ⟨(some 31), none, .trap, [], none⟩,
         ⟨(some 9), none, .id, [.slot 31], none⟩])
       (.seq
        (.region [
          ⟨(some 32), none, .id, [.slot 3], none⟩,
          ⟨(some 33), none, .bin .sub, [.slot 32, .val (.int .i64 1)], none⟩,
          ⟨(some 3), none, .id, [.slot 33], none⟩])
        (.seq
         (.region [
           ⟨(some 10), none, .id, [.val (.int .i64 0)], none⟩])
         (.seq
          (.block 0
           (.loop L0_strings_genSplit))
          (.seq
           (.region [
             ⟨(some 58), none, .id, [.slot 9], none⟩,
             ⟨(some 59), none, .id, [.slot 10], none⟩,
             ⟨(some 60), none, .id, [.slot 0], none⟩,
             ⟨(some 61), none, .ixaddr 1, [.slot 58, .slot 59], none⟩,
             ⟨none, none, .store 1, [.slot 61, .slot 60], none⟩])
           (.seq
            (.region [
              ⟨(some 62), none, .id, [.slot 9], none⟩,
              ⟨(some 63), none, .id, [.slot 10], none⟩,
              ⟨(some 64), none, .bin .add, [.slot 63, .val (.int .i64 1)], none⟩,
              ⟨(some 65), none, .slsl 1 false true false, [.slot 62, .slot 64], none⟩,
              ⟨(some 8), none, .id, [.slot 65], none⟩])
            (.ret)))))))))))
def F_strings_genSplit : IFun := ⟨66, [.slot 8], b_strings_genSplit, 3, 0⟩
theorem c_strings_genSplit : cFun Tryd.prog [] 0 f_strings_genSplit = some F_strings_genSplit := by kernel_rfl

def b_slices_Containsstringstring : ICode :=
 .seq
  (.region [
    ⟨(some 4), none, .id, [.val (.bool false)], none⟩])
  (.seq
   (.region [
     ⟨(some 5), none, .id, [.slot 0], none⟩,
     ⟨(some 6), none, .id, [.slot 1], none⟩,
     ⟨(some 7), none, .call f_slices_Indexstringstring, [.slot 5, .slot 6], none⟩,
     ⟨(some 8), none, .bin .geq, [.slot 7, .val (.int .i64 0)], none⟩,
     ⟨(some 4), none, .id, [.slot 8], none⟩])
   (.ret))
def F_slices_Containsstringstring : IFun := ⟨9, [.slot 4], b_slices_Containsstringstring, 3, 0⟩
theorem c_slices_Containsstringstring : cFun Tryd.prog [] 0 f_slices_Containsstringstring = some F_slices_Containsstringstring := by kernel_rfl

def b_lex_Words : ICode :=
 .seq
  (.region [
    ⟨(some 0), none, .id, [.val .nilsl], none⟩])
  (.seq
   (.region [
     ⟨(some 1), none, .buildSl 1 26 (.str ⟨#[]⟩) [0, 1, 2, 3, 4, 5, 6, 7, 8, 9, 10, 11, 12, 13, 14, 15, 16, 17, 18, 19, 20, 21, 22, 23, 24, 25], [.val (.str ⟨#[77, 65, 84, 67, 72]⟩), .val (.str ⟨#[79, 80, 84, 73, 79, 78, 65, 76]⟩), .val (.str ⟨#[87, 72, 69, 82, 69]⟩), .val (.str ⟨#[82, 69, 84, 85, 82, 78]⟩), .val (.str ⟨#[68, 73, 83, 84, 73, 78, 67, 84]⟩), .val (.str ⟨#[79, 82, 68, 69, 82]⟩), .val (.str ⟨#[66, 89]⟩), .val (.str ⟨#[68, 69, 83, 67]⟩), .val (.str ⟨#[83, 75, 73, 80]⟩), .val (.str ⟨#[76, 73, 77, 73, 84]⟩), .val (.str ⟨#[67, 82, 69, 65, 84, 69]⟩), .val (.str ⟨#[83, 69, 84]⟩), .val (.str ⟨#[82, 69, 77, 79, 86, 69]⟩), .val (.str ⟨#[68, 69, 76, 69, 84, 69]⟩), .val (.str ⟨#[65, 78, 68]⟩), .val (.str ⟨#[79, 82]⟩), .val (.str ⟨#[78, 79, 84]⟩), .val (.str ⟨#[73, 83]⟩), .val (.str ⟨#[78, 85, 76, 76]⟩), .val (.str ⟨#[84, 82, 85, 69]⟩), .val (.str ⟨#[70, 65, 76, 83, 69]⟩), .val (.str ⟨#[67, 79, 85, 78, 84]⟩), .val (.str ⟨#[83, 85, 77]⟩), .val (.str ⟨#[77, 73, 78]⟩), .val (.str ⟨#[77, 65, 88]⟩), .val (.str ⟨#[77, 65, 78, 89]⟩)], none⟩,
     ⟨(some 0), none, .id, [.slot 1], none⟩])
   (.ret))
def F_lex_Words : IFun := ⟨2, [.slot 0], b_lex_Words, 3, 0⟩
theorem c_lex_Words : cFun Tryd.prog [] 0 f_lex_Words = some F_lex_Words := by kernel_rfl

def b_graph_View_Values : ICode :=
 .seq
  (.region [
    ⟨(some 3), none, .boxL, [.slot 1], none⟩,
    ⟨(some 4), none, .id, [.val .nilsl], none⟩])
  (.seq
   (.seq
    (.region [
      ⟨(some 5), none, .id, [.slot 0], none⟩,
      ⟨(some 6), none, .eq1 false .ptr, [.slot 5, .val .nilptr], none⟩])
    (.cond (.slot 6)
     (.seq
      (.region [
        ⟨(some 4), none, .id, [.val .nilsl], none⟩])
      (.ret))
     (.skip)))
   (.seq
    (.region [
      ⟨(some 7), none, .id, [.slot 0], none⟩,
      ⟨(some 8), none, .nilchk, [.slot 7], none⟩,
      ⟨(some 9), none, .faddr 5, [.slot 8], none⟩,
      ⟨(some 10), none, .load 1 false, [.slot 9], (some (.heap))⟩,
      ⟨(some 11), none, .load 5 true, [.slot 3], (some (.loc 3))⟩,
      ⟨(some 12), none, .trap, [], none⟩,
      ⟨(some 13), none, .call f_slices_Cloneapi_Valueapi_Value, [.slot 12], none⟩,
      ⟨(some 4), none, .id, [.slot 13], none⟩])
    (.ret)))
def F_graph_View_Values : IFun := ⟨14, [.slot 4], b_graph_View_Values, 3, 0⟩
theorem c_graph_View_Values : cFun Tryd.prog [1048579] 0 f_graph_View_Values = some F_graph_View_Values := by kernel_rfl

def L0_strings_explode : ICode :=
 .seq
  (.seq
   (.region [
     ⟨(some 22), none, .id, [.slot 7], none⟩,
     ⟨(some 23), none, .id, [.slot 1], none⟩,
     ⟨(some 24), none, .bin .sub, [.slot 23, .val (.int .i64 1)], none⟩,
     ⟨(some 25), none, .bin .lss, [.slot 22, .slot 24], none⟩])
   (.cond (.slot 25)
    (.skip)
    (.exit 0)))
  (.seq
   (.block 1
    (.seq
     (.region [
       ⟨(some 29), none, .id, [.slot 0], none⟩,
       ⟨(some 30), none, .call f_unicode_utf8_DecodeRuneInString, [.slot 29], none⟩,
       ⟨(some 28), none, .id, [.slot 30], none⟩,
       ⟨(some 31), none, .extract 0, [.slot 28], none⟩,
       ⟨(some 32), none, .extract 1, [.slot 28], none⟩,
       ⟨(some 8), none, .id, [.slot 31], none⟩,
       ⟨(some 9), none, .id, [.slot 32], none⟩])
     (.seq
      (.region [
        ⟨(some 33), none, .id, [.slot 6], none⟩,
        ⟨(some 34), none, .id, [.slot 7], none⟩,
        ⟨(some 35), none, .id, [.slot 0], none⟩,
        ⟨(some 36), none, .id, [.slot 9], none⟩,
        ⟨(some 37), none, .slstr false true, [.slot 35, .slot 36], none⟩,
        ⟨(some 38), none, .ixaddr 1, [.slot 33, .slot 34], none⟩,
        ⟨none, none, .store 1, [.slot 38, .slot 37], none⟩])
      (.region [
        ⟨(some 39), none, .id, [.slot 0], none⟩,
        ⟨(some 40), none, .id, [.slot 9], none⟩,
        ⟨(some 41), none, .slstr true false, [.slot 39, .slot 40], none⟩,
        ⟨(some 0), none, .id, [.slot 41], none⟩]))))
   (.region [
     ⟨(some 26), none, .id, [.slot 7], none⟩,
     ⟨(some 27), none, .bin .add, [.slot 26, .val (.int .i64 1)], none⟩,
     ⟨(some 7), none, .id, [.slot 27], none⟩]))
def b_strings_explode : ICode :=
 .seq
  (.region [
    ⟨(some 4), none, .id, [.val .nilsl], none⟩])
  (.seq
   (.region [
     ⟨(some 10), none, .id, [.slot 0], none⟩,
     ⟨(some 11), none, .call f_unicode_utf8_RuneCountInString, [.slot 10], none⟩,
     ⟨(some 5), none, .id, [.slot 11], none⟩])
   (.seq
    (.seq
     (.region [
       ⟨(some 12), none, .id, [.slot 1], none⟩,
       ⟨(some 13), none, .bin .lss, [.slot 12, .val (.int .i64 0)], none⟩,
       ⟨(some 14), none, .id, [.slot 13], none⟩,
       ⟨(some 15), (some (14, false)), .id, [.slot 1], none⟩,
       ⟨(some 16), (some (14, false)), .id, [.slot 5], none⟩,
       ⟨(some 17), (some (14, false)), .bin .gtr, [.slot 15, .slot 16], none⟩,
       ⟨(some 18), none, .pick, [.slot 14, .val (.bool true), .slot 17], none⟩])
     (.cond (.slot 18)
      (.region [
        ⟨(some 19), none, .id, [.slot 5], none⟩,
        ⟨(some 1), none, .id, [.slot 19], none⟩])
      (.skip)))
    (.seq
     (.region [
       ⟨(some 20), none, .id, [.slot 1], none⟩,
       ⟨(some 21), none, .trap, [], none⟩,
       ⟨(some 6), none, .id, [.slot 21], none⟩])
     (.seq
      (.seq
       (.region [
         ⟨(some 7), none, .id, [.val (.int .i64 0)], none⟩])
       (.block 0
        (.loop L0_strings_explode)))
      (.seq
       (.seq
        (.region [
          ⟨(some 42), none, .id, [.slot 1], none⟩,
          ⟨(some 43), none, .bin .gtr, [.slot 42, .val (.int .i64 0)], none⟩])
        (.cond (.slot 43)
         (.region [
           ⟨(some 44), none, .id, [.slot 6], none⟩,
           ⟨(some 45), none, .id, [.slot 1], none⟩,
           ⟨(some 46), none, .bin .sub, [.slot 45, .val (.int .i64 1)], none⟩,
           ⟨(some 47), none, .id, [.slot 0], none⟩,
           ⟨(some 48), none, .ixaddr 1, [.slot 44, .slot 46], none⟩,
           ⟨none, none, .store 1, [.slot 48, .slot 47], none⟩])
         (.skip)))
       (.seq
        (.region [
          ⟨(some 49), none, .id, [.slot 6], none⟩,
          ⟨(some 4), none, .id, [.slot 49], none⟩])
        (.ret)))))))
def F_strings_explode : IFun := ⟨50, [.slot 4], b_strings_explode, 3, 0⟩
theorem c_strings_explode : cFun Tryd.prog [] 0 f_strings_explode = some F_strings_explode := by kernel_rfl

def L0_strings_Count : ICode :=
 .block 1
  (.seq
   (.region [
     ⟨(some 20), none, .id, [.slot 0], none⟩,
     ⟨(some 21), none, .id, [.slot 1], none⟩,
     ⟨(some 22), none, .call f_strings_Index, [.slot 20, .slot 21], none⟩,
     ⟨(some 6), none, .id, [.slot 22], none⟩])
   (.seq
    (.seq
     (.region [
       ⟨(some 23), none, .id, [.slot 6], none⟩,
       ⟨(some 24), none, .bin .eql, [.slot 23, .val (.int .i64 (-1))], none⟩])
     (.cond (.slot 24)
      (.seq
       (.region [
         ⟨(some 25), none, .id, [.slot 5], none⟩,
         ⟨(some 4), none, .id, [.slot 25], none⟩])
       (.ret))
      (.skip)))
    (.seq
     (.region [
       ⟨(some 26), none, .id, [.slot 5], none⟩,
       ⟨(some 27), none, .bin .add, [.slot 26, .val (.int .i64 1)], none⟩,
       ⟨(some 5), none, .id, [.slot 27], none⟩])
     (.region [
       ⟨(some 28), none, .id, [.slot 0], none⟩,
       ⟨(some 29), none, .id, [.slot 6], none⟩,
       ⟨(some 30), none, .id, [.slot 1], none⟩,
       ⟨(some 31), none, .lenstr, [.slot 30], none⟩,
       ⟨(some 32), none, .bin .add, [.slot 29, .slot 31], none⟩,
       ⟨(some 33), none, .slstr true false, [.slot 28, .slot 32], none⟩,
       ⟨(some 0), none, .id, [.slot 33], none⟩]))))
def b_strings_Count : ICode :=
 .seq
  (.region [
    ⟨(some 4), none, .id, [.val (.int .i64 0)], none⟩])
  (.seq
   (.seq
    (.region [
      ⟨(some 7), none, .id, [.slot 1], none⟩,
      ⟨(some 8), none, .lenstr, [.slot 7], none⟩,
      ⟨(some 9), none, .bin .eql, [.slot 8, .val (.int .i64 0)], none⟩])
    (.cond (.slot 9)
     (.seq
      (.region [
        ⟨(some 10), none, .id, [.slot 0], none⟩,
        ⟨(some 11), none, .call f_unicode_utf8_RuneCountInString, [.slot 10], none⟩,
        ⟨(some 12), none, .bin .add, [.slot 11, .val (.int .i64 1)], none⟩,
        ⟨(some 4), none, .id, [.slot 12], none⟩])
      (.ret))
     (.skip)))
   (.seq
    (.seq
     (.region [
       ⟨(some 13), none, .id, [.slot 1], none⟩,
       ⟨(some 14), none, .lenstr, [.slot 13], none⟩,
       ⟨(some 15), none, .bin .eql, [.slot 14, .val (.int .i64 1)], none⟩])
     (.cond (.slot 15)
      (.seq
       (.region [
         ⟨(some 16), none, .id, [.slot 0], none⟩,
         ⟨(some 17), none, .id, [.slot 1], none⟩,
         ⟨(some 18), none, .ixstr, [.slot 17, .val (.int .i64 0)], none⟩,
         ⟨(some 19), none, .call f_bytealg_CountString, [.slot 16, .slot 18], none⟩,
         ⟨(some 4), none, .id, [.slot 19], none⟩])
       (.ret))
      (.skip)))
    (.seq
     (.region [
       ⟨(some 5), none, .id, [.val (.int .i64 0)], none⟩])
     (.block 0
      (.loop L0_strings_Count)))))
def F_strings_Count : IFun := ⟨34, [.slot 4], b_strings_Count, 3, 0⟩
theorem c_strings_Count : cFun Tryd.prog [] 0 f_strings_Count = some F_strings_Count := by kernel_rfl

def b_strings_Index : ICode :=
 .seq
  (.region [
    ⟨(some 4), none, .id, [.val (.int .i64 0)], none⟩])
  (.seq
   (.region [
     ⟨(some 5), none, .id, [.slot 0], none⟩,
     ⟨(some 6), none, .id, [.slot 1], none⟩,
     ⟨(some 7), none, .call f_stringslite_Index, [.slot 5, .slot 6], none⟩,
     ⟨(some 4), none, .id, [.slot 7], none⟩])
   (.ret))
def F_strings_Index : IFun := ⟨8, [.slot 4], b_strings_Index, 3, 0⟩
theorem c_strings_Index : cFun Tryd.prog [] 0 f_strings_Index = some F_strings_Index := by kernel_rfl

def L0_slices_Indexstringstring : ICode :=
 .seq
  (.region [
    ⟨(some 9), none, .bin .lss, [.slot 8, .slot 7], none⟩])
  (.seq
   (.cond (.slot 9)
    (.skip)
    (.exit 0))
   (.seq
    (.block 1
     (.seq
      (.region [
        ⟨(some 10), none, .id, [.slot 8], none⟩,
        ⟨(some 5), none, .id, [.slot 10], none⟩])
      (.seq
       (.region [
         ⟨(some 11), none, .id, [.slot 1], none⟩,
         ⟨(some 12), none, .id, [.slot 0], none⟩,
         ⟨(some 13), none, .id, [.slot 5], none⟩,
         ⟨(some 14), none, .ixaddr 1, [.slot 12, .slot 13], none⟩,
         ⟨(some 15), none, .load 1 false, [.slot 14], none⟩,
         ⟨(some 16), none, .bin .eql, [.slot 11, .slot 15], none⟩])
       (.cond (.slot 16)
        (.seq
         (.region [
           ⟨(some 17), none, .id, [.slot 5], none⟩,
           ⟨(some 4), none, .id, [.slot 17], none⟩])
         (.ret))
        (.skip)))))
    (.region [
      ⟨(some 18), none, .bin .add, [.slot 8, .val (.int .i64 1)], none⟩,
      ⟨(some 8), none, .id, [.slot 18], none⟩])))
def b_slices_Indexstringstring : ICode :=
 .seq
  (.region [
    ⟨(some 4), none, .id, [.val (.int .i64 0)], none⟩])
  (.seq
   (.seq
    (.region [
      ⟨(some 6), none, .id, [.slot 0], none⟩,
      ⟨(some 7), none, .lensl, [.slot 6], none⟩,
      ⟨(some 8), none, .id, [.val (.int .i64 0)], none⟩])
    (.block 0
     (.loop L0_slices_Indexstringstring)))
   (.seq
    (.region [
      ⟨(some 4), none, .id, [.val (.int .i64 (-1))], none⟩])
    (.ret)))
def F_slices_Indexstringstring : IFun := ⟨19, [.slot 4], b_slices_Indexstringstring, 3, 0⟩
theorem c_slices_Indexstringstring : cFun Tryd.prog [] 0 f_slices_Indexstringstring = some F_slices_Indexstringstring := by kernel_rfl

def b_slices_Cloneapi_Valueapi_Value : ICode :=
 .seq
  (.region [
    ⟨(some 2), none, .id, [.val .nilsl], none⟩])
  (.seq
   (.seq
    (.region [
      ⟨(some 3), none, .id, [.slot 0], none⟩,
      ⟨(some 4), none, .eq1 false .slice, [.slot 3, .val .nilsl], none⟩])
    (.cond (.slot 4)
     (.seq
      (.region [
        ⟨(some 2), none, .id, [.val .nilsl], none⟩])
      (.ret))
     (.skip)))
   (.seq
    (.region [
      ⟨(some 5), none, .buildSl 3 0 (.agg [(.int .i64 0), (.int .i64 0), (.str ⟨#[]⟩)]) [], [], none⟩,
      ⟨(some 6), none, .id, [.slot 0], none⟩,
      ⟨(some 7), none, .append 3 32, [.slot 5, .slot 6], none⟩,
      ⟨(some 2), none, .id, [.slot 7], none⟩])
    (.ret)))
def F_slices_Cloneapi_Valueapi_Value : IFun := ⟨8, [.slot 2], b_slices_Cloneapi_Valueapi_Value, 3, 0⟩
theorem c_slices_Cloneapi_Valueapi_Value : cFun Tryd.prog [] 0 f_slices_Cloneapi_Valueapi_Value = some F_slices_Cloneapi_Valueapi_Value := by kernel_rfl

def L0_unicode_utf8_RuneCountInString : ICode :=
 .seq
  (.region [
    ⟨(some 5), none, .next, [.slot 4], none⟩,
    ⟨(some 6), none, .extract 0, [.slot 5], none⟩])
  (.seq
   (.cond (.slot 6)
    (.skip)
    (.exit 0))
   (.block 1
    (.region [
      ⟨(some 7), none, .id, [.slot 2], none⟩,
      ⟨(some 8), none, .bin .add, [.slot 7, .val (.int .i64 1)], none⟩,
      ⟨(some 2), none, .id, [.slot 8], none⟩])))
def b_unicode_utf8_RuneCountInString : ICode :=
 .seq
  (.region [
    ⟨(some 2), none, .id, [.val (.int .i64 0)], none⟩])
  (.seq
   (.seq
    (.region [
      ⟨(some 3), none, .id, [.slot 0], none⟩,
      ⟨(some 4), none, .range, [.slot 3], none⟩])
    (.block 0
     (.loop L0_unicode_utf8_RuneCountInString)))
   (.seq
    (.region [
      ⟨(some 9), none, .id, [.slot 2], none⟩,
      ⟨(some 2), none, .id, [.slot 9], none⟩])
    (.ret)))
def F_unicode_utf8_RuneCountInString : IFun := ⟨10, [.slot 2], b_unicode_utf8_RuneCountInString, 3, 0⟩
theorem c_unicode_utf8_RuneCountInString : cFun Tryd.prog [] 0 f_unicode_utf8_RuneCountInString = some F_unicode_utf8_RuneCountInString := by kernel_rfl

def b_unicode_utf8_DecodeRuneInString : ICode :=
 .seq
  (.region [
    ⟨(some 2), none, .id, [.val (.int .i32 0)], none⟩,
    ⟨(some 3), none, .id, [.val (.int .i64 0)], none⟩])
  (.seq
   (.seq
    (.region [
      ⟨(some 4), none, .id, [.slot 0], none⟩,
      ⟨(some 5), none, .bin .neq, [.slot 4, .val (.str ⟨#[]⟩)], none⟩,
      ⟨(some 6), none, .id, [.slot 5], none⟩,
      ⟨(some 7), (some (6, true)), .id, [.slot 0], none⟩,
      ⟨(some 8), (some (6, true)), .ixstr, [.slot 7, .val (.int .i64 0)], none⟩,
      ⟨(some 9), (some (6, true)), .bin .lss, [.slot 8, .val (.int .u8 128)], none⟩,
      ⟨(some 10), none, .pick, [.slot 6, .slot 9, .val (.bool false)], none⟩])
    (.cond (.slot 10)
     (.seq
      (.region [
        ⟨(some 11), none, .id, [.slot 0], none⟩,
        ⟨(some 12), none, .ixstr, [.slot 11, .val (.int .i64 0)], none⟩,
        ⟨(some 13), none, .conv .i32, [.slot 12], none⟩,
        ⟨(some 2), none, .id, [.slot 13], none⟩,
        ⟨(some 3), none, .id, [.val (.int .i64 1)], none⟩])
      (.ret))
     (.region [
       ⟨(some 15), none, .id, [.slot 0], none⟩,
       ⟨(some 16), none, .call f_unicode_utf8_decodeRuneInStringSlow, [.slot 15], none⟩,
       ⟨(some 14), none, .id, [.slot 16], none⟩,
       ⟨(some 17), none, .extract 0, [.slot 14], none⟩,
       ⟨(some 18), none, .extract 1, [.slot 14], none⟩,
       ⟨(some 2), none, .id, [.slot 17], none⟩,
       ⟨(some 3), none, .id, [.slot 18], none⟩])))
   (.ret))
def F_unicode_utf8_DecodeRuneInString : IFun := ⟨19, [.slot 2, .slot 3], b_unicode_utf8_DecodeRuneInString, 3, 0⟩
theorem c_unicode_utf8_DecodeRuneInString : cFun Tryd.prog [] 0 f_unicode_utf8_DecodeRuneInString = some F_unicode_utf8_DecodeRuneInString := by kernel_rfl

def L0_stringslite_Index : ICode :=
 .seq
  (.seq
   (.region [
     ⟨(some 57), none, .id, [.slot 8], none⟩,
     ⟨(some 58), none, .id, [.slot 9], none⟩,
     ⟨(some 59), none, .bin .lss, [.slot 57, .slot 58], none⟩])
   (.cond (.slot 59)
    (.skip)
    (.exit 1)))
  (.block 2
   (.seq
    (.seq
     (.region [
       ⟨(some 60), none, .id, [.slot 0], none⟩,
       ⟨(some 61), none, .id, [.slot 8], none⟩,
       ⟨(some 62), none, .ixstr, [.slot 60, .slot 61], none⟩,
       ⟨(some 63), none, .id, [.slot 6], none⟩,
       ⟨(some 64), none, .bin .neq, [.slot 62, .slot 63], none⟩])
     (.cond (.slot 64)
      (.seq
       (.region [
         ⟨(some 65), none, .id, [.slot 0], none⟩,
         ⟨(some 66), none, .id, [.slot 8], none⟩,
         ⟨(some 67), none, .bin .add, [.slot 66, .val (.int .i64 1)], none⟩,
         ⟨(some 68), none, .id, [.slot 9], none⟩,
         ⟨(some 69), none, .slstr true true, [.slot 65, .slot 67, .slot 68], none⟩,
         ⟨(some 70), none, .id, [.slot 6], none⟩,
         ⟨(some 71), none, .call f_stringslite_IndexByte, [.slot 69, .slot 70], none⟩,
         ⟨(some 11), none, .id, [.slot 71], none⟩])
       (.seq
        (.seq
         (.region [
           ⟨(some 72), none, .id, [.slot 11], none⟩,
           ⟨(some 73), none, .bin .lss, [.slot 72, .val (.int .i64 0)], none⟩])
         (.cond (.slot 73)
          (.seq
           (.region [
             ⟨(some 4), none, .id, [.val (.int .i64 (-1))], none⟩])
           (.ret))
          (.skip)))
        (.region [
          ⟨(some 74), none, .id, [.slot 8], none⟩,
          ⟨(some 75), none, .id, [.slot 11], none⟩,
          ⟨(some 76), none, .bin .add, [.slot 75, .val (.int .i64 1)], none⟩,
          ⟨(some 77), none, .bin .add, [.slot 74, .slot 76], none⟩,
          ⟨(some 8), none, .id, [.slot 77], none⟩])))
      (.skip)))
    (.seq
     (.seq
      (.region [
        ⟨(some 78), none, .id, [.slot 0], none⟩,
        ⟨(some 79), none, .id, [.slot 8], none⟩,
        ⟨(some 80), none, .bin .add, [.slot 79, .val (.int .i64 1)], none⟩,
        ⟨(some 81), none, .ixstr, [.slot 78, .slot 80], none⟩,
        ⟨(some 82), none, .id, [.slot 7], none⟩,
        ⟨(some 83), none, .bin .eql, [.slot 81, .slot 82], none⟩,
        ⟨(some 84), none, .id, [.slot 83], none⟩,
        ⟨(some 85), (some (84, true)), .id, [.slot 0], none⟩,
        ⟨(some 86), (some (84, true)), .id, [.slot 8], none⟩,
        ⟨(some 87), (some (84, true)), .id, [.slot 8], none⟩,
        ⟨(some 88), (some (84, true)), .id, [.slot 5], none⟩,
        ⟨(some 89), (some (84, true)), .bin .add, [.slot 87, .slot 88], none⟩,
        ⟨(some 90), (some (84, true)), .slstr true true, [.slot 85, .slot 86, .slot 89], none⟩,
        ⟨(some 91), (some (84, true)), .id, [.slot 1], none⟩,
        ⟨(some 92), (some (84, true)), .bin .eql, [.slot 90, .slot 91], none⟩,
        ⟨(some 93), none, .pick, [.slot 84, .slot 92, .val (.bool false)], none⟩])
      (.cond (.slot 93)
       (.seq
        (.region [
          ⟨(some 94), none, .id, [.slot 8], none⟩,
          ⟨(some 4), none, .id, [.slot 94], none⟩])
        (.ret))
       (.skip)))
     (.seq
      (.region [
        ⟨(some 95), none, .id, [.slot 8], none⟩,
        ⟨(some 96), none, .bin .add, [.slot 95, .val (.int .i64 1)], none⟩,
        ⟨(some 8), none, .id, [.slot 96], none⟩])
      (.seq
       (.region [
         ⟨(some 97), none, .id, [.slot 10], none⟩,
         ⟨(some 98), none, .bin .add, [.slot 97, .val (.int .i64 1)], none⟩,
         ⟨(some 10), none, .id, [.slot 98], none⟩])
       (.seq
        (.region [
          ⟨(some 99), none, .id, [.slot 5], none⟩,
          ⟨(some 100), none, .load 1 false, [.val (.ptr 0 0)], none⟩,
          ⟨(some 101), none, .bin .leq, [.slot 99, .slot 100], none⟩,
          ⟨(some 102), none, .id, [.slot 101], none⟩,
          ⟨(some 103), (some (102, true)), .id, [.slot 10], none⟩,
          ⟨(some 104), (some (102, true)), .id, [.slot 8], none⟩,
          ⟨(some 105), (some (102, true)), .call f_bytealg_Cutover, [.slot 104], none⟩,
          ⟨(some 106), (some (102, true)), .bin .gtr, [.slot 103, .slot 105], none⟩,
          ⟨(some 107), none, .pick, [.slot 102, .slot 106, .val (.bool false)], none⟩])
        (.cond (.slot 107)
         (.seq
          (.region [
            ⟨(some 108), none, .id, [.slot 0], none⟩,
            ⟨(some 109), none, .id, [.slot 8], none⟩,
            ⟨(some 110), none, .slstr true false, [.slot 108, .slot 109], none⟩,
            ⟨(some 111), none, .id, [.slot 1], none⟩,
            ⟨(some 112), none, .call f_bytealg_IndexString, [.slot 110, .slot 111], none⟩,
            ⟨(some 12), none, .id, [.slot 112], none⟩])
          (.seq
           (.seq
            (.region [
              ⟨(some 113), none, .id, [.slot 12], none⟩,
              ⟨(some 114), none, .bin .geq, [.slot 113, .val (.int .i64 0)], none⟩])
            (.cond (.slot 114)
             (.seq
              (.region [
                ⟨(some 115), none, .id, [.slot 12], none⟩,
                ⟨(some 116), none, .id, [.slot 8], none⟩,
                ⟨(some 117), none, .bin .add, [.slot 115, .slot 116], none⟩,
                ⟨(some 4), none, .id, [.slot 117], none⟩])
              (.ret))
             (.skip)))
           (.seq
            (.region [
              ⟨(some 4), none, .id, [.val (.int .i64 (-1))], none⟩])
            (.ret))))
         (.seq
          (.region [
            ⟨(some 118), none, .id, [.slot 5], none⟩,
            ⟨(some 119), none, .load 1 false, [.val (.ptr 0 0)], none⟩,
            ⟨(some 120), none, .bin .gtr, [.slot 118, .slot 119], none⟩,
            ⟨(some 121), none, .id, [.slot 120], none⟩,
            ⟨(some 122), (some (121, true)), .id, [.slot 10], none⟩,
            ⟨(some 123), (some (121, true)), .id, [.slot 8], none⟩,
            ⟨(some 124), (some (121, true)), .bin .shr, [.slot 123, .val (.int .u64 4)], none⟩,
            ⟨(some 125), (some (121, true)), .bin .add, [.val (.int .i64 4), .slot 124], none⟩,
            ⟨(some 126), (some (121, true)), .bin .geq, [.slot 122, .slot 125], none⟩,
            ⟨(some 127), none, .pick, [.slot 121, .slot 126, .val (.bool false)], none⟩,
            ⟨(some 128), none, .id, [.slot 127], none⟩,
            ⟨(some 129), (some (128, true)), .id, [.slot 8], none⟩,
            ⟨(some 130), (some (128, true)), .id, [.slot 9], none⟩,
            ⟨(some 131), (some (128, true)), .bin .lss, [.slot 129, .slot 130], none⟩,
            ⟨(some 132), none, .pick, [.slot 128, .slot 131, .val (.bool false)], none⟩])
          (.cond (.slot 132)
           (.seq
            (.region [
              ⟨(some 133), none, .id, [.slot 0], none⟩,
              ⟨(some 134), none, .id, [.slot 8], none⟩,
              ⟨(some 135), none, .slstr true false, [.slot 133, .slot 134], none⟩,
              ⟨(some 136), none, .id, [.slot 1], none⟩,
              ⟨(some 137), none, .call f_bytealg_IndexRabinKarpstring, [.slot 135, .slot 136], none⟩,
              ⟨(some 13), none, .id, [.slot 137], none⟩])
            (.seq
             (.seq
              (.region [
                ⟨(some 138), none, .id, [.slot 13], none⟩,
                ⟨(some 139), none, .bin .lss, [.slot 138, .val (.int .i64 0)], none⟩])
              (.cond (.slot 139)
               (.seq
                (.region [
                  ⟨(some 4), none, .id, [.val (.int .i64 (-1))], none⟩])
                (.ret))
               (.skip)))
             (.seq
              (.region [
                ⟨(some 140), none, .id, [.slot 8], none⟩,
                ⟨(some 141), none, .id, [.slot 13], none⟩,
                ⟨(some 142), none, .bin .add, [.slot 140, .slot 141], none⟩,
                ⟨(some 4), none, .id, [.slot 142], none⟩])
              (.ret))))
           (.skip))))))))))
def b_stringslite_Index : ICode :=
 .seq
  (.region [
    ⟨(some 4), none, .id, [.val (.int .i64 0)], none⟩])
  (.seq
   (.region [
     ⟨(some 14), none, .id, [.slot 1], none⟩,
     ⟨(some 15), none, .lenstr, [.slot 14], none⟩,
     ⟨(some 5), none, .id, [.slot 15], none⟩])
   (.seq
    (.block 0
     (.seq
      (.region [
        ⟨(some 17), none, .id, [.slot 5], none⟩,
        ⟨(some 18), none, .bin .eql, [.slot 17, .val (.int .i64 0)], none⟩,
        ⟨(some 19), none, .id, [.slot 18], none⟩,
        ⟨(some 20), (some (19, false)), .id, [.slot 1], none⟩,
        ⟨(some 21), (some (19, false)), .id, [.slot 0], none⟩,
        ⟨(some 22), (some (19, false)), .bin .eql, [.slot 20, .slot 21], none⟩,
        ⟨(some 23), none, .pick, [.slot 19, .val (.bool true), .slot 22], none⟩,
        ⟨(some 16), none, .id, [.slot 23], none⟩])
      (.cond (.slot 16)
       (.seq
        (.region [
          ⟨(some 4), none, .id, [.val (.int .i64 0)], none⟩])
        (.ret))
       (.seq
        (.region [
          ⟨(some 25), none, .id, [.slot 5], none⟩,
          ⟨(some 26), none, .bin .eql, [.slot 25, .val (.int .i64 1)], none⟩,
          ⟨(some 24), none, .id, [.slot 26], none⟩])
        (.cond (.slot 24)
         (.seq
          (.region [
            ⟨(some 27), none, .id, [.slot 0], none⟩,
            ⟨(some 28), none, .id, [.slot 1], none⟩,
            ⟨(some 29), none, .ixstr, [.slot 28, .val (.int .i64 0)], none⟩,
            ⟨(some 30), none, .call f_stringslite_IndexByte, [.slot 27, .slot 29], none⟩,
            ⟨(some 4), none, .id, [.slot 30], none⟩])
          (.ret))
         (.seq
          (.region [
            ⟨(some 32), none, .id, [.slot 5], none⟩,
            ⟨(some 33), none, .id, [.slot 0], none⟩,
            ⟨(some 34), none, .lenstr, [.slot 33], none⟩,
            ⟨(some 35), none, .bin .geq, [.slot 32, .slot 34], none⟩,
            ⟨(some 31), none, .id, [.slot 35], none⟩])
          (.cond (.slot 31)
           (.seq
            (.region [
              ⟨(some 4), none, .id, [.val (.int .i64 (-1))], none⟩])
            (.ret))
           (.seq
            (.region [
              ⟨(some 37), none, .id, [.slot 5], none⟩,
              ⟨(some 38), none, .load 1 false, [.val (.ptr 0 0)], none⟩,
              ⟨(some 39), none, .bin .leq, [.slot 37, .slot 38], none⟩,
              ⟨(some 40), none, .id, [.slot 39], none⟩,
              ⟨(some 41), (some (40, true)), .id, [.slot 0], none⟩,
              ⟨(some 42), (some (40, true)), .lenstr, [.slot 41], none⟩,
              ⟨(some 43), (some (40, true)), .bin .leq, [.slot 42, .val (.int .i64 64)], none⟩,
              ⟨(some 44), none, .pick, [.slot 40, .slot 43, .val (.bool false)], none⟩,
              ⟨(some 36), none, .id, [.slot 44], none⟩])
            (.cond (.slot 36)
             (.seq
              (.region [
                ⟨(some 45), none, .id, [.slot 0], none⟩,
                ⟨(some 46), none, .id, [.slot 1], none⟩,
                ⟨(some 47), none, .call f_bytealg_IndexString, [.slot 45, .slot 46], none⟩,
                ⟨(some 4), none, .id, [.slot 47], none⟩])
              (.ret))
             (.skip))))))))))
    (.seq
     (.region [
       ⟨(some 48), none, .id, [.slot 1], none⟩,
       ⟨(some 49), none, .ixstr, [.slot 48, .val (.int .i64 0)], none⟩,
       ⟨(some 6), none, .id, [.slot 49], none⟩])
     (.seq
      (.region [
        ⟨(some 50), none, .id, [.slot 1], none⟩,
        ⟨(some 51), none, .ixstr, [.slot 50, .val (.int .i64 1)], none⟩,
        ⟨(some 7), none, .id, [.slot 51], none⟩])
      (.seq
       (.region [
         ⟨(some 8), none, .id, [.val (.int .i64 0)], none⟩])
       (.seq
        (.region [
          ⟨(some 52), none, .id, [.slot 0], none⟩,
          ⟨(some 53), none, .lenstr, [.slot 52], none⟩,
          ⟨(some 54), none, .id, [.slot 5], none⟩,
          ⟨(some 55), none, .bin .sub, [.slot 53, .slot 54], none⟩,
          ⟨(some 56), none, .bin .add, [.slot 55, .val (.int .i64 1)], none⟩,
          ⟨(some 9), none, .id, [.slot 56], none⟩])
        (.seq
         (.region [
           ⟨(some 10), none, .id, [.val (.int .i64 0)], none⟩])
         (.seq
          (.block 1
           (.loop L0_stringslite_Index))
          (.seq
           (.region [
             ⟨(some 4), none, .id, [.val (.int .i64 (-1))], none⟩])
           (.ret))))))))))
def F_stringslite_Index : IFun := ⟨143, [.slot 4], b_stringslite_Index, 3, 0⟩
theorem c_stringslite_Index : cFun Tryd.prog [] 0 f_stringslite_Index = some F_stringslite_Index := by kernel_rfl

def b_unicode_utf8_decodeRuneInStringSlow : ICode :=
 .seq
  (.region [
    ⟨(some 2), none, .id, [.val (.int .i32 0)], none⟩,
    ⟨(some 3), none, .id, [.val (.int .i64 0)], none⟩])
  (.seq
   (.region [
     ⟨(some 13), none, .id, [.slot 0], none⟩,
     ⟨(some 14), none, .lenstr, [.slot 13], none⟩,
     ⟨(some 4), none, .id, [.slot 14], none⟩])
   (.seq
    (.seq
     (.region [
       ⟨(some 15), none, .id, [.slot 4], none⟩,
       ⟨(some 16), none, .bin .lss, [.slot 15, .val (.int .i64 1)], none⟩])
     (.cond (.slot 16)
      (.seq
       (.region [
         ⟨(some 2), none, .id, [.val (.int .i32 65533)], none⟩,
         ⟨(some 3), none, .id, [.val (.int .i64 0)], none⟩])
       (.ret))
      (.skip)))
    (.seq
     (.region [
       ⟨(some 17), none, .id, [.slot 0], none⟩,
       ⟨(some 18), none, .ixstr, [.slot 17, .val (.int .i64 0)], none⟩,
       ⟨(some 5), none, .id, [.slot 18], none⟩])
     (.seq
      (.region [
        ⟨(some 19), none, .id, [.slot 5], none⟩,
        ⟨(some 20), none, .ixaddrA 256 1, [.val (.ptr 1 0), .slot 19], none⟩,
        ⟨(some 21), none, .load 1 false, [.slot 20], none⟩,
        ⟨(some 6), none, .id, [.slot 21], none⟩])
      (.seq
       (.seq
        (.region [
          ⟨(some 22), none, .id, [.slot 6], none⟩,
          ⟨(some 23), none, .bin .geq, [.slot 22, .val (.int .u8 240)], none⟩])
        (.cond (.slot 23)
         (.seq
          (.region [
            ⟨(some 24), none, .id, [.slot 6], none⟩,
            ⟨(some 25), none, .conv .i32, [.slot 24], none⟩,
            ⟨(some 26), none, .bin .shl, [.slot 25, .val (.int .u64 31)], none⟩,
            ⟨(some 27), none, .bin .shr, [.slot 26, .val (.int .u64 31)], none⟩,
            ⟨(some 7), none, .id, [.slot 27], none⟩])
          (.seq
           (.region [
             ⟨(some 28), none, .id, [.slot 0], none⟩,
             ⟨(some 29), none, .ixstr, [.slot 28, .val (.int .i64 0)], none⟩,
             ⟨(some 30), none, .conv .i32, [.slot 29], none⟩,
             ⟨(some 31), none, .id, [.slot 7], none⟩,
             ⟨(some 32), none, .bin .andNot, [.slot 30, .slot 31], none⟩,
             ⟨(some 33), none, .id, [.slot 7], none⟩,
             ⟨(some 34), none, .bin .and, [.val (.int .i32 65533), .slot 33], none⟩,
             ⟨(some 35), none, .bin .or, [.slot 32, .slot 34], none⟩,
             ⟨(some 2), none, .id, [.slot 35], none⟩,
             ⟨(some 3), none, .id, [.val (.int .i64 1)], none⟩])
           (.ret)))
         (.skip)))
       (.seq
        (.region [
          ⟨(some 36), none, .id, [.slot 6], none⟩,
          ⟨(some 37), none, .bin .and, [.slot 36, .val (.int .u8 7)], none⟩,
          ⟨(some 38), none, .conv .i64, [.slot 37], none⟩,
          ⟨(some 8), none, .id, [.slot 38], none⟩])
        (.seq
         (.region [
           ⟨(some 39), none, .id, [.slot 6], none⟩,
           ⟨(some 40), none, .bin .shr, [.slot 39, .val (.int .u64 4)], none⟩,
           ⟨(some 41), none, .ixaddrA 16 2, [.val (.ptr 2 0), .slot 40], none⟩,
           ⟨(some 42), none, .load 2 true, [.slot 41], none⟩,
           ⟨(some 9), none, .allocL [(.int .u8 0), (.int .u8 0)], [], none⟩,
           ⟨none, none, .store 2, [.slot 9, .slot 42], none⟩])
         (.seq
          (.seq
           (.region [
             ⟨(some 43), none, .id, [.slot 4], none⟩,
             ⟨(some 44), none, .id, [.slot 8], none⟩,
             ⟨(some 45), none, .bin .lss, [.slot 43, .slot 44], none⟩])
           (.cond (.slot 45)
            (.seq
             (.region [
               ⟨(some 2), none, .id, [.val (.int .i32 65533)], none⟩,
               ⟨(some 3), none, .id, [.val (.int .i64 1)], none⟩])
             (.ret))
            (.skip)))
          (.seq
           (.region [
             ⟨(some 46), none, .id, [.slot 0], none⟩,
             ⟨(some 47), none, .ixstr, [.slot 46, .val (.int .i64 1)], none⟩,
             ⟨(some 10), none, .id, [.slot 47], none⟩])
           (.seq
            (.seq
             (.region [
               ⟨(some 48), none, .id, [.slot 10], none⟩,
               ⟨(some 49), none, .faddr 0, [.slot 9], none⟩,
               ⟨(some 50), none, .load 1 false, [.slot 49], none⟩,
               ⟨(some 51), none, .bin .lss, [.slot 48, .slot 50], none⟩,
               ⟨(some 52), none, .id, [.slot 51], none⟩,
               ⟨(some 53), (some (52, false)), .faddr 1, [.slot 9], none⟩,
               ⟨(some 54), (some (52, false)), .load 1 false, [.slot 53], none⟩,
               ⟨(some 55), (some (52, false)), .id, [.slot 10], none⟩,
               ⟨(some 56), (some (52, false)), .bin .lss, [.slot 54, .slot 55], none⟩,
               ⟨(some 57), none, .pick, [.slot 52, .val (.bool true), .slot 56], none⟩])
             (.cond (.slot 57)
              (.seq
               (.region [
                 ⟨(some 2), none, .id, [.val (.int .i32 65533)], none⟩,
                 ⟨(some 3), none, .id, [.val (.int .i64 1)], none⟩])
               (.ret))
              (.skip)))
            (.seq
             (.seq
              (.region [
                ⟨(some 58), none, .id, [.slot 8], none⟩,
                ⟨(some 59), none, .bin .leq, [.slot 58, .val (.int .i64 2)], none⟩])
              (.cond (.slot 59)
               (.seq
                (.region [
                  ⟨(some 60), none, .id, [.slot 5], none⟩,
                  ⟨(some 61), none, .bin .and, [.slot 60, .val (.int .u8 31)], none⟩,
                  ⟨(some 62), none, .conv .i32, [.slot 61], none⟩,
                  ⟨(some 63), none, .bin .shl, [.slot 62, .val (.int .u64 6)], none⟩,
                  ⟨(some 64), none, .id, [.slot 10], none⟩,
                  ⟨(some 65), none, .bin .and, [.slot 64, .val (.int .u8 63)], none⟩,
                  ⟨(some 66), none, .conv .i32, [.slot 65], none⟩,
                  ⟨(some 67), none, .bin .or, [.slot 63, .slot 66], none⟩,
                  ⟨(some 2), none, .id, [.slot 67], none⟩,
                  ⟨(some 3), none, .id, [.val (.int .i64 2)], none⟩])
                (.ret))
               (.skip)))
             (.seq
              (.region [
                ⟨(some 68), none, .id, [.slot 0], none⟩,
                ⟨(some 69), none, .ixstr, [.slot 68, .val (.int .i64 2)], none⟩,
                ⟨(some 11), none, .id, [.slot 69], none⟩])
              (.seq
               (.seq
                (.region [
                  ⟨(some 70), none, .id, [.slot 11], none⟩,
                  ⟨(some 71), none, .bin .lss, [.slot 70, .val (.int .u8 128)], none⟩,
                  ⟨(some 72), none, .id, [.slot 71], none⟩,
                  ⟨(some 73), (some (72, false)), .id, [.slot 11], none⟩,
                  ⟨(some 74), (some (72, false)), .bin .lss, [.val (.int .u8 191), .slot 73], none⟩,
                  ⟨(some 75), none, .pick, [.slot 72, .val (.bool true), .slot 74], none⟩])
                (.cond (.slot 75)
                 (.seq
                  (.region [
                    ⟨(some 2), none, .id, [.val (.int .i32 65533)], none⟩,
                    ⟨(some 3), none, .id, [.val (.int .i64 1)], none⟩])
                  (.ret))
                 (.skip)))
               (.seq
                (.seq
                 (.region [
                   ⟨(some 76), none, .id, [.slot 8], none⟩,
                   ⟨(some 77), none, .bin .leq, [.slot 76, .val (.int .i64 3)], none⟩])
                 (.cond (.slot 77)
                  (.seq
                   (.region [
                     ⟨(some 78), none, .id, [.slot 5], none⟩,
                     ⟨(some 79), none, .bin .and, [.slot 78, .val (.int .u8 15)], none⟩,
                     ⟨(some 80), none, .conv .i32, [.slot 79], none⟩,
                     ⟨(some 81), none, .bin .shl, [.slot 80, .val (.int .u64 12)], none⟩,
                     ⟨(some 82), none, .id, [.slot 10], none⟩,
                     ⟨(some 83), none, .bin .and, [.slot 82, .val (.int .u8 63)], none⟩,
                     ⟨(some 84), none, .conv .i32, [.slot 83], none⟩,
                     ⟨(some 85), none, .bin .shl, [.slot 84, .val (.int .u64 6)], none⟩,
                     ⟨(some 86), none, .bin .or, [.slot 81, .slot 85], none⟩,
                     ⟨(some 87), none, .id, [.slot 11], none⟩,
                     ⟨(some 88), none, .bin .and, [.slot 87, .val (.int .u8 63)], none⟩,
                     ⟨(some 89), none, .conv .i32, [.slot 88], none⟩,
                     ⟨(some 90), none, .bin .or, [.slot 86, .slot 89], none⟩,
                     ⟨(some 2), none, .id, [.slot 90], none⟩,
                     ⟨(some 3), none, .id, [.val (.int .i64 3)], none⟩])
                   (.ret))
                  (.skip)))
                (.seq
                 (.region [
                   ⟨(some 91), none, .id, [.slot 0], none⟩,
                   ⟨(some 92), none, .ixstr, [.slot 91, .val (.int .i64 3)], none⟩,
                   ⟨(some 12), none, .id, [.slot 92], none⟩])
                 (.seq
                  (.seq
                   (.region [
                     ⟨(some 93), none, .id, [.slot 12], none⟩,
                     ⟨(some 94), none, .bin .lss, [.slot 93, .val (.int .u8 128)], none⟩,
                     ⟨(some 95), none, .id, [.slot 94], none⟩,
                     ⟨(some 96), (some (95, false)), .id, [.slot 12], none⟩,
                     ⟨(some 97), (some (95, false)), .bin .lss, [.val (.int .u8 191), .slot 96], none⟩,
                     ⟨(some 98), none, .pick, [.slot 95, .val (.bool true), .slot 97], none⟩])
                   (.cond (.slot 98)
                    (.seq
                     (.region [
                       ⟨(some 2), none, .id, [.val (.int .i32 65533)], none⟩,
                       ⟨(some 3), none, .id, [.val (.int .i64 1)], none⟩])
                     (.ret))
                    (.skip)))
                  (.seq
                   (.region [
                     ⟨(some 99), none, .id, [.slot 5], none⟩,
                     ⟨(some 100), none, .bin .and, [.slot 99, .val (.int .u8 7)], none⟩,
                     ⟨(some 101), none, .conv .i32, [.slot 100], none⟩,
                     ⟨(some 102), none, .bin .shl, [.slot 101, .val (.int .u64 18)], none⟩,
                     ⟨(some 103), none, .id, [.slot 10], none⟩,
                     ⟨(some 104), none, .bin .and, [.slot 103, .val (.int .u8 63)], none⟩,
                     ⟨(some 105), none, .conv .i32, [.slot 104], none⟩,
                     ⟨(some 106), none, .bin .shl, [.slot 105, .val (.int .u64 12)], none⟩,
                     ⟨(some 107), none, .bin .or, [.slot 102, .slot 106], none⟩,
                     ⟨(some 108), none, .id, [.slot 11], none⟩,
                     ⟨(some 109), none, .bin .and, [.slot 108, .val (.int .u8 63)], none⟩,
                     ⟨(some 110), none, .conv .i32, [.slot 109], none⟩,
                     ⟨(some 111), none, .bin .shl, [.slot 110, .val (.int .u64 6)], none⟩,
                     ⟨(some 112), none, .bin .or, [.slot 107, .slot 111], none⟩,
                     ⟨(some 113), none, .id, [.slot 12], none⟩,
                     ⟨(some 114), none, .bin .and, [.slot 113, .val (.int .u8 63)], none⟩,
                     ⟨(some 115), none, .conv .i32, [.slot 114], none⟩,
                     ⟨(some 116), none, .bin .or, [.slot 112, .slot 115], none⟩,
                     ⟨(some 2), none, .id, [.slot 116], none⟩,
                     ⟨(some 3), none, .id, [.val (.int .i64 4)], none⟩])
                   (.ret))))))))))))))))))
def F_unicode_utf8_decodeRuneInStringSlow : IFun := ⟨117, [.slot 2, .slot 3], b_unicode_utf8_decodeRuneInStringSlow, 3, 0⟩
theorem c_unicode_utf8_decodeRuneInStringSlow : cFun Tryd.prog [1048585] 0 f_unicode_utf8_decodeRuneInStringSlow = some F_unicode_utf8_decodeRuneInStringSlow := by kernel_rfl

def b_stringslite_IndexByte : ICode :=
 .seq
  (.region [
    ⟨(some 4), none, .id, [.val (.int .i64 0)], none⟩])
  (.seq
   (.region [
     ⟨(some 5), none, .id, [.slot 0], none⟩,
     ⟨(some 6), none, .id, [.slot 1], none⟩,
     ⟨(some 7), none, .call f_bytealg_IndexByteString, [.slot 5, .slot 6], none⟩,
     ⟨(some 4), none, .id, [.slot 7], none⟩])
   (.ret))
def F_stringslite_IndexByte : IFun := ⟨8, [.slot 4], b_stringslite_IndexByte, 3, 0⟩
theorem c_stringslite_IndexByte : cFun Tryd.prog [] 0 f_stringslite_IndexByte = some F_stringslite_IndexByte := by kernel_rfl

def b_bytealg_Cutover : ICode :=
 .seq
  (.region [
    ⟨(some 2), none, .id, [.val (.int .i64 0)], none⟩])
  (.seq
   (.region [
     ⟨(some 3), none, .id, [.slot 0], none⟩,
     ⟨(some 4), none, .bin .add, [.slot 3, .val (.int .i64 16)], none⟩,
     ⟨(some 5), none, .bin .quo, [.slot 4, .val (.int .i64 8)], none⟩,
     ⟨(some 2), none, .id, [.slot 5], none⟩])
   (.ret))
def F_bytealg_Cutover : IFun := ⟨6, [.slot 2], b_bytealg_Cutover, 3, 0⟩
theorem c_bytealg_Cutover : cFun Tryd.prog [] 0 f_bytealg_Cutover = some F_bytealg_Cutover := by kernel_rfl

def L0_bytealg_IndexRabinKarpstring : ICode :=
 .seq
  (.seq
   (.region [
     ⟨(some 18), none, .id, [.slot 9], none⟩,
     ⟨(some 19), none, .id, [.slot 7], none⟩,
     ⟨(some 20), none, .bin .lss, [.slot 18, .slot 19], none⟩])
   (.cond (.slot 20)
    (.skip)
    (.exit 0)))
  (.seq
   (.block 1
    (.region [
      ⟨(some 23), none, .id, [.slot 8], none⟩,
      ⟨(some 24), none, .bin .mul, [.slot 23, .val (.int .u32 16777619)], none⟩,
      ⟨(some 25), none, .id, [.slot 0], none⟩,
      ⟨(some 26), none, .id, [.slot 9], none⟩,
      ⟨(some 27), none, .ixstr, [.slot 25, .slot 26], none⟩,
      ⟨(some 28), none, .conv .u32, [.slot 27], none⟩,
      ⟨(some 29), none, .bin .add, [.slot 24, .slot 28], none⟩,
      ⟨(some 8), none, .id, [.slot 29], none⟩]))
   (.region [
     ⟨(some 21), none, .id, [.slot 9], none⟩,
     ⟨(some 22), none, .bin .add, [.slot 21, .val (.int .i64 1)], none⟩,
     ⟨(some 9), none, .id, [.slot 22], none⟩]))
def L1_bytealg_IndexRabinKarpstring : ICode :=
 .seq
  (.seq
   (.region [
     ⟨(some 41), none, .id, [.slot 10], none⟩,
     ⟨(some 42), none, .id, [.slot 0], none⟩,
     ⟨(some 43), none, .lenstr, [.slot 42], none⟩,
     ⟨(some 44), none, .bin .lss, [.slot 41, .slot 43], none⟩])
   (.cond (.slot 44)
    (.skip)
    (.exit 2)))
  (.block 3
   (.seq
    (.region [
      ⟨(some 45), none, .id, [.slot 8], none⟩,
      ⟨(some 46), none, .bin .mul, [.slot 45, .val (.int .u32 16777619)], none⟩,
      ⟨(some 8), none, .id, [.slot 46], none⟩])
    (.seq
     (.region [
       ⟨(some 47), none, .id, [.slot 8], none⟩,
       ⟨(some 48), none, .id, [.slot 0], none⟩,
       ⟨(some 49), none, .id, [.slot 10], none⟩,
       ⟨(some 50), none, .ixstr, [.slot 48, .slot 49], none⟩,
       ⟨(some 51), none, .conv .u32, [.slot 50], none⟩,
       ⟨(some 52), none, .bin .add, [.slot 47, .slot 51], none⟩,
       ⟨(some 8), none, .id, [.slot 52], none⟩])
     (.seq
      (.region [
        ⟨(some 53), none, .id, [.slot 8], none⟩,
        ⟨(some 54), none, .id, [.slot 6], none⟩,
        ⟨(some 55), none, .id, [.slot 0], none⟩,
        ⟨(some 56), none, .id, [.slot 10], none⟩,
        ⟨(some 57), none, .id, [.slot 7], none⟩,
        ⟨(some 58), none, .bin .sub, [.slot 56, .slot 57], none⟩,
        ⟨(some 59), none, .ixstr, [.slot 55, .slot 58], none⟩,
        ⟨(some 60), none, .conv .u32, [.slot 59], none⟩,
        ⟨(some 61), none, .bin .mul, [.slot 54, .slot 60], none⟩,
        ⟨(some 62), none, .bin .sub, [.slot 53, .slot 61], none⟩,
        ⟨(some 8), none, .id, [.slot 62], none⟩])
      (.seq
       (.region [
         ⟨(some 63), none, .id, [.slot 10], none⟩,
         ⟨(some 64), none, .bin .add, [.slot 63, .val (.int .i64 1)], none⟩,
         ⟨(some 10), none, .id, [.slot 64], none⟩])
       (.seq
        (.region [
          ⟨(some 65), none, .id, [.slot 8], none⟩,
          ⟨(some 66), none, .id, [.slot 5], none⟩,
          ⟨(some 67), none, .bin .eql, [.slot 65, .slot 66], none⟩,
          ⟨(some 68), none, .id, [.slot 67], none⟩,
          ⟨(some 69), (some (68, true)), .id, [.slot 0], none⟩,
          ⟨(some 70), (some (68, true)), .id, [.slot 10], none⟩,
          ⟨(some 71), (some (68, true)), .id, [.slot 7], none⟩,
          ⟨(some 72), (some (68, true)), .bin .sub, [.slot 70, .slot 71], none⟩,
          ⟨(some 73), (some (68, true)), .id, [.slot 10], none⟩,
          ⟨(some 74), (some (68, true)), .slstr true true, [.slot 69, .slot 72, .slot 73], none⟩,
          ⟨(some 75), (some (68, true)), .id, [.slot 1], none⟩,
          ⟨(some 76), (some (68, true)), .bin .eql, [.slot 74, .slot 75], none⟩,
          ⟨(some 77), none, .pick, [.slot 68, .slot 76, .val (.bool false)], none⟩])
        (.cond (.slot 77)
         (.seq
          (.region [
            ⟨(some 78), none, .id, [.slot 10], none⟩,
            ⟨(some 79), none, .id, [.slot 7], none⟩,
            ⟨(some 80), none, .bin .sub, [.slot 78, .slot 79], none⟩,
            ⟨(some 4), none, .id, [.slot 80], none⟩])
          (.ret))
         (.skip))))))))
def b_bytealg_IndexRabinKarpstring : ICode :=
 .seq
  (.region [
    ⟨(some 4), none, .id, [.val (.int .i64 0)], none⟩])
  (.seq
   (.region [
     ⟨(some 12), none, .id, [.slot 1], none⟩,
     ⟨(some 13), none, .call f_bytealg_hashStrstring, [.slot 12], none⟩,
     ⟨(some 11), none, .id, [.slot 13], none⟩,
     ⟨(some 14), none, .extract 0, [.slot 11], none⟩,
     ⟨(some 15), none, .extract 1, [.slot 11], none⟩,
     ⟨(some 5), none, .id, [.slot 14], none⟩,
     ⟨(some 6), none, .id, [.slot 15], none⟩])
   (.seq
    (.region [
      ⟨(some 16), none, .id, [.slot 1], none⟩,
      ⟨(some 17), none, .lenstr, [.slot 16], none⟩,
      ⟨(some 7), none, .id, [.slot 17], none⟩])
    (.seq
     (.region [
       ⟨(some 8), none, .id, [.val (.int .u32 0)], none⟩])
     (.seq
      (.seq
       (.region [
         ⟨(some 9), none, .id, [.val (.int .i64 0)], none⟩])
       (.block 0
        (.loop L0_bytealg_IndexRabinKarpstring)))
      (.seq
       (.seq
        (.region [
          ⟨(some 30), none, .id, [.slot 8], none⟩,
          ⟨(some 31), none, .id, [.slot 5], none⟩,
          ⟨(some 32), none, .bin .eql, [.slot 30, .slot 31], none⟩,
          ⟨(some 33), none, .id, [.slot 32], none⟩,
          ⟨(some 34), (some (33, true)), .id, [.slot 0], none⟩,
          ⟨(some 35), (some (33, true)), .id, [.slot 7], none⟩,
          ⟨(some 36), (some (33, true)), .slstr false true, [.slot 34, .slot 35], none⟩,
          ⟨(some 37), (some (33, true)), .id, [.slot 1], none⟩,
          ⟨(some 38), (some (33, true)), .bin .eql, [.slot 36, .slot 37], none⟩,
          ⟨(some 39), none, .pick, [.slot 33, .slot 38, .val (.bool false)], none⟩])
        (.cond (.slot 39)
         (.seq
          (.region [
            ⟨(some 4), none, .id, [.val (.int .i64 0)], none⟩])
          (.ret))
         (.skip)))
       (.seq
        (.seq
         (.region [
           ⟨(some 40), none, .id, [.slot 7], none⟩,
           ⟨(some 10), none, .id, [.slot 40], none⟩])
         (.block 2
          (.loop L1_bytealg_IndexRabinKarpstring)))
        (.seq
         (.region [
           ⟨(some 4), none, .id, [.val (.int .i64 (-1))], none⟩])
         (.ret))))))))
def F_bytealg_IndexRabinKarpstring : IFun := ⟨81, [.slot 4], b_bytealg_IndexRabinKarpstring, 3, 0⟩
theorem c_bytealg_IndexRabinKarpstring : cFun Tryd.prog [] 0 f_bytealg_IndexRabinKarpstring = some F_bytealg_IndexRabinKarpstring := by kernel_rfl

def L0_bytealg_hashStrstring : ICode :=
 .seq
  (.seq
   (.region [
     ⟨(some 9), none, .id, [.slot 5], none⟩,
     ⟨(some 10), none, .id, [.slot 0], none⟩,
     ⟨(some 11), none, .lenstr, [.slot 10], none⟩,
     ⟨(some 12), none, .bin .lss, [.slot 9, .slot 11], none⟩])
   (.cond (.slot 12)
    (.skip)
    (.exit 0)))
  (.seq
   (.block 1
    (.region [
      ⟨(some 15), none, .id, [.slot 4], none⟩,
      ⟨(some 16), none, .bin .mul, [.slot 15, .val (.int .u32 16777619)], none⟩,
      ⟨(some 17), none, .id, [.slot 0], none⟩,
      ⟨(some 18), none, .id, [.slot 5], none⟩,
      ⟨(some 19), none, .ixstr, [.slot 17, .slot 18], none⟩,
      ⟨(some 20), none, .conv .u32, [.slot 19], none⟩,
      ⟨(some 21), none, .bin .add, [.slot 16, .slot 20], none⟩,
      ⟨(some 4), none, .id, [.slot 21], none⟩]))
   (.region [
     ⟨(some 13), none, .id, [.slot 5], none⟩,
     ⟨(some 14), none, .bin .add, [.slot 13, .val (.int .i64 1)], none⟩,
     ⟨(some 5), none, .id, [.slot 14], none⟩]))
def L1_bytealg_hashStrstring : ICode :=
 .seq
  (.seq
   (.region [
     ⟨(some 24), none, .id, [.slot 8], none⟩,
     ⟨(some 25), none, .bin .gtr, [.slot 24, .val (.int .i64 0)], none⟩])
   (.cond (.slot 25)
    (.skip)
    (.exit 2)))
  (.seq
   (.block 3
    (.seq
     (.seq
      (.region [
        ⟨(some 28), none, .id, [.slot 8], none⟩,
        ⟨(some 29), none, .bin .and, [.slot 28, .val (.int .i64 1)], none⟩,
        ⟨(some 30), none, .bin .neq, [.slot 29, .val (.int .i64 0)], none⟩])
      (.cond (.slot 30)
       (.region [
         ⟨(some 31), none, .id, [.slot 6], none⟩,
         ⟨(some 32), none, .id, [.slot 7], none⟩,
         ⟨(some 33), none, .bin .mul, [.slot 31, .slot 32], none⟩,
         ⟨(some 6), none, .id, [.slot 33], none⟩])
       (.skip)))
     (.region [
       ⟨(some 34), none, .id, [.slot 7], none⟩,
       ⟨(some 35), none, .id, [.slot 7], none⟩,
       ⟨(some 36), none, .bin .mul, [.slot 34, .slot 35], none⟩,
       ⟨(some 7), none, .id, [.slot 36], none⟩])))
   (.region [
     ⟨(some 26), none, .id, [.slot 8], none⟩,
     ⟨(some 27), none, .bin .shr, [.slot 26, .val (.int .u64 1)], none⟩,
     ⟨(some 8), none, .id, [.slot 27], none⟩]))
def b_bytealg_hashStrstring : ICode :=
 .seq
  (.region [
    ⟨(some 2), none, .id, [.val (.int .u32 0)], none⟩,
    ⟨(some 3), none, .id, [.val (.int .u32 0)], none⟩])
  (.seq
   (.region [
     ⟨(some 4), none, .id, [.val (.int .u32 0)], none⟩])
   (.seq
    (.seq
     (.region [
       ⟨(some 5), none, .id, [.val (.int .i64 0)], none⟩])
     (.block 0
      (.loop L0_bytealg_hashStrstring)))
    (.seq
     (.region [
       ⟨(some 6), none, .id, [.val (.int .u32 1)], none⟩,
       ⟨(some 7), none, .id, [.val (.int .u32 16777619)], none⟩])
     (.seq
      (.seq
       (.region [
         ⟨(some 22), none, .id, [.slot 0], none⟩,
         ⟨(some 23), none, .lenstr, [.slot 22], none⟩,
         ⟨(some 8), none, .id, [.slot 23], none⟩])
       (.block 2
        (.loop L1_bytealg_hashStrstring)))
      (.seq
       (.region [
         ⟨(some 37), none, .id, [.slot 4], none⟩,
         ⟨(some 38), none, .id, [.slot 6], none⟩,
         ⟨(some 2), none, .id, [.slot 37], none⟩,
         ⟨(some 3), none, .id, [.slot 38], none⟩])
       (.ret))))))
def F_bytealg_hashStrstring : IFun := ⟨39, [.slot 2, .slot 3], b_bytealg_hashStrstring, 3, 0⟩
theorem c_bytealg_hashStrstring : cFun Tryd.prog [] 0 f_bytealg_hashStrstring = some F_bytealg_hashStrstring := by kernel_rfl

def rows : List (Nat × List Nat × IFun) := [
  (3, [1048582, 1048583, 1048587, 2097157, 2097158], F_hedgerowlaw22_EvalLaws),
  (5, [1048577, 1048579, 1048581, 1048583, 2097158], F_hedgerowlaw22_fixed),
  (6, [37, 1048584, 1048589, 2097173, 2097175], F_eval_Eval),
  (16, [1048585, 2097158, 2097189], F_eval_True),
  (17, [], F_eval_Env_Has),
  (18, [1048580], F_eval_Env_Get),
  (19, [1048577, 2097172], F_eval_Eval_1),
  (20, [1048577, 1048579], F_value_Right),
  (21, [1048580, 2097194], F_expr_Right),
  (22, [], F_slices_ContainsFunceval_Enveval_Bind),
  (23, [1048579, 1048580, 1048581, 1048582, 2097197, 2097198, 2097199], F_eval_reckoner_at),
  (34, [], F_cmp_Orint),
  (35, [], F_cmp_Compareint),
  (36, [], F_cmp_Comparestring),
  (37, [1048578, 1048579], F_eval_boolean),
  (38, [3], F_eval_Env_find),
  (39, [], F_value_plain),
  (40, [], F_value_Name),
  (41, [1048577, 1048578], F_value_Link),
  (42, [1048578, 1048581, 2097172], F_expr_may),
  (43, [], F_slices_IndexFunceval_Enveval_Bind),
  (44, [1048579, 1048580], F_eval_reckoner_leaf),
  (45, [1048579, 1048580, 2097189], F_eval_one),
  (46, [1048579, 1048580, 1048582, 1048583, 1048584, 2097189], F_eval_logic),
  (47, [1048580, 1048581, 1048582, 1048583, 2097189], F_eval_compared),
  (48, [1048580, 1048581, 1048582], F_eval_reckoned),
  (57, [], F_value_names),
  (61, [], F_cmp_isNaNint),
  (62, [], F_cmp_isNaNstring),
  (63, [1048578], F_eval_Env_find_1),
  (64, [], F_value_letter),
  (65, [], F_value_inner),
  (66, [], F_strings_Split),
  (67, [], F_expr_name),
  (68, [1048578], F_eval_number),
  (69, [1048579, 1048581, 1048582], F_eval_reckoner_values),
  (70, [1048578, 1048579], F_value_Compare),
  (71, [1048580], F_eval_product),
  (81, [], F_strings_genSplit),
  (82, [], F_slices_Containsstringstring),
  (83, [], F_lex_Words),
  (84, [1048579], F_graph_View_Values),
  (91, [], F_strings_explode),
  (92, [], F_strings_Count),
  (93, [], F_strings_Index),
  (94, [], F_slices_Indexstringstring),
  (95, [], F_slices_Cloneapi_Valueapi_Value),
  (99, [], F_unicode_utf8_RuneCountInString),
  (100, [], F_unicode_utf8_DecodeRuneInString),
  (102, [], F_stringslite_Index),
  (105, [1048585], F_unicode_utf8_decodeRuneInStringSlow),
  (106, [], F_stringslite_IndexByte),
  (108, [], F_bytealg_Cutover),
  (109, [], F_bytealg_IndexRabinKarpstring),
  (111, [], F_bytealg_hashStrstring)]
def T : Nat → Option IFun := tableOf rows
theorem T_rows : RowsOk Tryd.prog rows :=
  .cons c_hedgerowlaw22_EvalLaws <|
  .cons c_hedgerowlaw22_fixed <|
  .cons c_eval_Eval <|
  .cons c_eval_True <|
  .cons c_eval_Env_Has <|
  .cons c_eval_Env_Get <|
  .cons c_eval_Eval_1 <|
  .cons c_value_Right <|
  .cons c_expr_Right <|
  .cons c_slices_ContainsFunceval_Enveval_Bind <|
  .cons c_eval_reckoner_at <|
  .cons c_cmp_Orint <|
  .cons c_cmp_Compareint <|
  .cons c_cmp_Comparestring <|
  .cons c_eval_boolean <|
  .cons c_eval_Env_find <|
  .cons c_value_plain <|
  .cons c_value_Name <|
  .cons c_value_Link <|
  .cons c_expr_may <|
  .cons c_slices_IndexFunceval_Enveval_Bind <|
  .cons c_eval_reckoner_leaf <|
  .cons c_eval_one <|
  .cons c_eval_logic <|
  .cons c_eval_compared <|
  .cons c_eval_reckoned <|
  .cons c_value_names <|
  .cons c_cmp_isNaNint <|
  .cons c_cmp_isNaNstring <|
  .cons c_eval_Env_find_1 <|
  .cons c_value_letter <|
  .cons c_value_inner <|
  .cons c_strings_Split <|
  .cons c_expr_name <|
  .cons c_eval_number <|
  .cons c_eval_reckoner_values <|
  .cons c_value_Compare <|
  .cons c_eval_product <|
  .cons c_strings_genSplit <|
  .cons c_slices_Containsstringstring <|
  .cons c_lex_Words <|
  .cons c_graph_View_Values <|
  .cons c_strings_explode <|
  .cons c_strings_Count <|
  .cons c_strings_Index <|
  .cons c_slices_Indexstringstring <|
  .cons c_slices_Cloneapi_Valueapi_Value <|
  .cons c_unicode_utf8_RuneCountInString <|
  .cons c_unicode_utf8_DecodeRuneInString <|
  .cons c_stringslite_Index <|
  .cons c_unicode_utf8_decodeRuneInStringSlow <|
  .cons c_stringslite_IndexByte <|
  .cons c_bytealg_Cutover <|
  .cons c_bytealg_IndexRabinKarpstring <|
  .cons c_bytealg_hashStrstring <|
  .nil
theorem T_ok : TableOk Tryd.prog T := tableOf_ok (by kernel_rfl) T_rows.all
theorem T_hedgerowlaw22_EvalLaws : T f_hedgerowlaw22_EvalLaws = some F_hedgerowlaw22_EvalLaws := by kernel_rfl
theorem T_hedgerowlaw22_fixed : T f_hedgerowlaw22_fixed = some F_hedgerowlaw22_fixed := by kernel_rfl
theorem T_eval_Eval : T f_eval_Eval = some F_eval_Eval := by kernel_rfl
theorem T_eval_True : T f_eval_True = some F_eval_True := by kernel_rfl
theorem T_eval_Env_Has : T f_eval_Env_Has = some F_eval_Env_Has := by kernel_rfl
theorem T_eval_Env_Get : T f_eval_Env_Get = some F_eval_Env_Get := by kernel_rfl
theorem T_eval_Eval_1 : T f_eval_Eval_1 = some F_eval_Eval_1 := by kernel_rfl
theorem T_value_Right : T f_value_Right = some F_value_Right := by kernel_rfl
theorem T_expr_Right : T f_expr_Right = some F_expr_Right := by kernel_rfl
theorem T_slices_ContainsFunceval_Enveval_Bind : T f_slices_ContainsFunceval_Enveval_Bind = some F_slices_ContainsFunceval_Enveval_Bind := by kernel_rfl
theorem T_eval_reckoner_at : T f_eval_reckoner_at = some F_eval_reckoner_at := by kernel_rfl
theorem T_cmp_Orint : T f_cmp_Orint = some F_cmp_Orint := by kernel_rfl
theorem T_cmp_Compareint : T f_cmp_Compareint = some F_cmp_Compareint := by kernel_rfl
theorem T_cmp_Comparestring : T f_cmp_Comparestring = some F_cmp_Comparestring := by kernel_rfl
theorem T_eval_boolean : T f_eval_boolean = some F_eval_boolean := by kernel_rfl
theorem T_eval_Env_find : T f_eval_Env_find = some F_eval_Env_find := by kernel_rfl
theorem T_value_plain : T f_value_plain = some F_value_plain := by kernel_rfl
theorem T_value_Name : T f_value_Name = some F_value_Name := by kernel_rfl
theorem T_value_Link : T f_value_Link = some F_value_Link := by kernel_rfl
theorem T_expr_may : T f_expr_may = some F_expr_may := by kernel_rfl
theorem T_slices_IndexFunceval_Enveval_Bind : T f_slices_IndexFunceval_Enveval_Bind = some F_slices_IndexFunceval_Enveval_Bind := by kernel_rfl
theorem T_eval_reckoner_leaf : T f_eval_reckoner_leaf = some F_eval_reckoner_leaf := by kernel_rfl
theorem T_eval_one : T f_eval_one = some F_eval_one := by kernel_rfl
theorem T_eval_logic : T f_eval_logic = some F_eval_logic := by kernel_rfl
theorem T_eval_compared : T f_eval_compared = some F_eval_compared := by kernel_rfl
theorem T_eval_reckoned : T f_eval_reckoned = some F_eval_reckoned := by kernel_rfl
theorem T_value_names : T f_value_names = some F_value_names := by kernel_rfl
theorem T_cmp_isNaNint : T f_cmp_isNaNint = some F_cmp_isNaNint := by kernel_rfl
theorem T_cmp_isNaNstring : T f_cmp_isNaNstring = some F_cmp_isNaNstring := by kernel_rfl
theorem T_eval_Env_find_1 : T f_eval_Env_find_1 = some F_eval_Env_find_1 := by kernel_rfl
theorem T_value_letter : T f_value_letter = some F_value_letter := by kernel_rfl
theorem T_value_inner : T f_value_inner = some F_value_inner := by kernel_rfl
theorem T_strings_Split : T f_strings_Split = some F_strings_Split := by kernel_rfl
theorem T_expr_name : T f_expr_name = some F_expr_name := by kernel_rfl
theorem T_eval_number : T f_eval_number = some F_eval_number := by kernel_rfl
theorem T_eval_reckoner_values : T f_eval_reckoner_values = some F_eval_reckoner_values := by kernel_rfl
theorem T_value_Compare : T f_value_Compare = some F_value_Compare := by kernel_rfl
theorem T_eval_product : T f_eval_product = some F_eval_product := by kernel_rfl
theorem T_strings_genSplit : T f_strings_genSplit = some F_strings_genSplit := by kernel_rfl
theorem T_slices_Containsstringstring : T f_slices_Containsstringstring = some F_slices_Containsstringstring := by kernel_rfl
theorem T_lex_Words : T f_lex_Words = some F_lex_Words := by kernel_rfl
theorem T_graph_View_Values : T f_graph_View_Values = some F_graph_View_Values := by kernel_rfl
theorem T_strings_explode : T f_strings_explode = some F_strings_explode := by kernel_rfl
theorem T_strings_Count : T f_strings_Count = some F_strings_Count := by kernel_rfl
theorem T_strings_Index : T f_strings_Index = some F_strings_Index := by kernel_rfl
theorem T_slices_Indexstringstring : T f_slices_Indexstringstring = some F_slices_Indexstringstring := by kernel_rfl
theorem T_slices_Cloneapi_Valueapi_Value : T f_slices_Cloneapi_Valueapi_Value = some F_slices_Cloneapi_Valueapi_Value := by kernel_rfl
theorem T_unicode_utf8_RuneCountInString : T f_unicode_utf8_RuneCountInString = some F_unicode_utf8_RuneCountInString := by kernel_rfl
theorem T_unicode_utf8_DecodeRuneInString : T f_unicode_utf8_DecodeRuneInString = some F_unicode_utf8_DecodeRuneInString := by kernel_rfl
theorem T_stringslite_Index : T f_stringslite_Index = some F_stringslite_Index := by kernel_rfl
theorem T_unicode_utf8_decodeRuneInStringSlow : T f_unicode_utf8_decodeRuneInStringSlow = some F_unicode_utf8_decodeRuneInStringSlow := by kernel_rfl
theorem T_stringslite_IndexByte : T f_stringslite_IndexByte = some F_stringslite_IndexByte := by kernel_rfl
theorem T_bytealg_Cutover : T f_bytealg_Cutover = some F_bytealg_Cutover := by kernel_rfl
theorem T_bytealg_IndexRabinKarpstring : T f_bytealg_IndexRabinKarpstring = some F_bytealg_IndexRabinKarpstring := by kernel_rfl
theorem T_bytealg_hashStrstring : T f_bytealg_hashStrstring = some F_bytealg_hashStrstring := by kernel_rfl
end Go.Proofs.YtiacgomjmijfcaaDoor
