/- The code of the functions, by name, for the second reading; that it is theirs. -/
import Derived.Test.YtbcgpomifflijaaDoorProg
import Derived.KernelRfl
import Derived.Test.YtbcgpomifflijaaDoorR4
set_option linter.unusedVariables false
set_option linter.unusedSimpArgs false
set_option linter.unusedVariables false
namespace Go.RR.M
open Go Go.RR
set_option maxRecDepth 100000
def n_main_main : Nat := 0
def n_gosem_cut : Nat := 1
def n_gosem_cut_init : Nat := 2
def n_law08_ModelTells : Nat := 3
def n_law08_ModelLess : Nat := 4
def n_law08_ModelNodes : Nat := 5
def n_law04_DomTells : Nat := 6
def n_law04_DomFalls : Nat := 7
def n_law04_DomOwn : Nat := 8
def n_law08_awake : Nat := 9
def n_law08_Large : Nat := 10
def n_law08_cons : Nat := 11
def n_model_Check : Nat := 12
def n_ref08_Check : Nat := 13
def n_model_Name : Nat := 14
def n_ref08_Name : Nat := 15
def n_model_Right : Nat := 16
def n_ref08_Right : Nat := 17
def n_ref08_Decls : Nat := 18
def n_model_Vars : Nat := 19
def n_ref08_Vars : Nat := 20
def n_ref02_Same : Nat := 21
def n_model_Ends : Nat := 22
def n_ref08_Ends : Nat := 23
def n_model_Same : Nat := 24
def n_ref08_Same : Nat := 25
def n_model_Nodes : Nat := 26
def n_ref08_Nodes : Nat := 27
def n_law04_awake : Nat := 28
def n_dom_New : Nat := 29
def n_ref04_New : Nat := 30
def n_ref04_List : Nat := 31
def n_dom_Least : Nat := 32
def n_dom_Greatest : Nat := 33
def n_dom_Single : Nat := 34
def n_ref04_Same : Nat := 35
def n_dom_May : Nat := 36
def n_ref04_May : Nat := 37
def n_dom_Size : Nat := 38
def n_dom_List : Nat := 39
def n_ref03_Of : Nat := 40
def n_ref04_Between : Nat := 41
def n_dom_Has : Nat := 42
def n_ref03_Same : Nat := 43
def n_dom_Spans : Nat := 44
def n_dom_Only : Nat := 45
def n_ref04_Keep : Nat := 46
def n_dom_Less : Nat := 47
def n_ref04_Less : Nat := 48
def n_dom_Between : Nat := 49
def n_dom_Same : Nat := 50
def n_law08_small : Nat := 51
def n_model_big : Nat := 52
def n_slices_ContainsFunc_sapi_Block_api_Block : Nat := 53
def n_model_Check_1 : Nat := 54
def n_slices_ContainsFunc_sapi_Decl_api_Decl : Nat := 55
def n_model_Check_2 : Nat := 56
def n_model_Check_3 : Nat := 57
def n_model_Check_4 : Nat := 58
def n_spans_Size : Nat := 59
def n_model_wrong : Nat := 60
def n_ref03_Size : Nat := 61
def n_strings_Contains : Nat := 62
def n_strings_Trim : Nat := 63
def n_model_looker_linear : Nat := 64
def n_model_looker_product : Nat := 65
def n_model_looker_iff : Nat := 66
def n_model_looker_element : Nat := 67
def n_model_looker_differ : Nat := 68
def n_model_looker_table : Nat := 69
def n_ref08_all : Nat := 70
def n_slices_Clone_sapi_Span_api_Span : Nat := 71
def n_model_Same_1 : Nat := 72
def n_slices_Equal_sapi_Span_api_Span : Nat := 73
def n_model_Same_2 : Nat := 74
def n_slices_EqualFunc_sapi_Decl_sapi_Decl_api_Decl_api_Decl : Nat := 75
def n_slices_EqualFunc_sapi_Con_sapi_Con_api_Con_api_Con : Nat := 76
def n_model_alike : Nat := 77
def n_slices_EqualFunc_sapi_Block_sapi_Block_api_Block_api_Block : Nat := 78
def n_ref08_Alike : Nat := 79
def n_bits_First : Nat := 80
def n_ref03_Values : Nat := 81
def n_ref02_Between : Nat := 82
def n_dom_at : Nat := 83
def n_bits_Least : Nat := 84
def n_bits_Greatest : Nat := 85
def n_dom_asked_int : Nat := 86
def n_dom_Size_1 : Nat := 87
def n_bits_Count : Nat := 88
def n_dom_asked_sint : Nat := 89
def n_dom_List_1 : Nat := 90
def n_bits_List : Nat := 91
def n_slices_Contains_sint_int : Nat := 92
def n_spans_Of : Nat := 93
def n_dom_kept : Nat := 94
def n_dom_Only_1 : Nat := 95
def n_ref02_Set : Nat := 96
def n_dom_Less_1 : Nat := 97
def n_dom_Between_1 : Nat := 98
def n_slices_Equal_sint_int : Nat := 99
def n_model_big_1 : Nat := 100
def n_slices_IndexFunc_sapi_Block_api_Block : Nat := 101
def n_slices_IndexFunc_sapi_Decl_api_Decl : Nat := 102
def n_spans_Right : Nat := 103
def n_slices_ContainsFunc_sapi_Con_api_Con : Nat := 104
def n_model_wrong_1 : Nat := 105
def n_model_wrong_2 : Nat := 106
def n_ref03_Right : Nat := 107
def n_strings_Index : Nat := 108
def n_strings_trimLeftByte : Nat := 109
def n_strings_trimRightByte : Nat := 110
def n_strings_makeASCIISet : Nat := 111
def n_strings_trimLeftASCII : Nat := 112
def n_strings_trimRightASCII : Nat := 113
def n_strings_trimLeftUnicode : Nat := 114
def n_strings_trimRightUnicode : Nat := 115
def n_model_looker_variables : Nat := 116
def n_model_looker_sum : Nat := 117
def n_model_looker_bare : Nat := 118
def n_math_bits_TrailingZeros64 : Nat := 119
def n_math_bits_LeadingZeros64 : Nat := 120
def n_math_bits_OnesCount64 : Nat := 121
def n_bits_all : Nat := 122
def n_slices_Index_sint_int : Nat := 123
def n_slices_Sorted_int : Nat := 124
def n_slices_Values_sint_int : Nat := 125
def n_spans_put : Nat := 126
def n_dom_asked_dom_Dom : Nat := 127
def n_dom_kept_1 : Nat := 128
def n_slices_Clone_sint_int : Nat := 129
def n_bits_Of : Nat := 130
def n_slices_IndexFunc_sapi_Con_api_Con : Nat := 131
def n_stringslite_Index : Nat := 132
def n_strings_asciiSet_contains : Nat := 133
def n_unicode_utf8_DecodeRuneInString : Nat := 134
def n_strings_ContainsRune : Nat := 135
def n_unicode_utf8_DecodeLastRuneInString : Nat := 136
def n_model_within : Nat := 137
def n_math_bits_Len64 : Nat := 138
def n_bits_all_1 : Nat := 139
def n_slices_Collect_int : Nat := 140
def n_slices_Sort_sint_int : Nat := 141
def n_slices_Values_sint_int_1 : Nat := 142
def n_stringslite_IndexByte : Nat := 143
def n_bytealg_IndexString : Nat := 144
def n_bytealg_Cutover : Nat := 145
def n_bytealg_IndexRabinKarp_string : Nat := 146
def n_unicode_utf8_decodeRuneInStringSlow : Nat := 147
def n_strings_IndexRune : Nat := 148
def n_unicode_utf8_RuneStart : Nat := 149
def n_slices_ContainsFunc_sint_int : Nat := 150
def n_model_within_1 : Nat := 151
def n_slices_AppendSeq_sint_int : Nat := 152
def n_slices_pdqsortOrdered_int : Nat := 153
def n_math_bits_Len : Nat := 154
def n_bytealg_IndexByteString : Nat := 155
def n_bytealg_hashStr_string : Nat := 156
def n_strings_IndexByte : Nat := 157
def n_unicode_utf8_ValidRune : Nat := 158
def n_slices_IndexFunc_sint_int : Nat := 159
def n_slices_insertionSortOrdered_int : Nat := 160
def n_slices_heapSortOrdered_int : Nat := 161
def n_slices_breakPatternsOrdered_int : Nat := 162
def n_slices_choosePivotOrdered_int : Nat := 163
def n_slices_reverseRangeOrdered_int : Nat := 164
def n_slices_partialInsertionSortOrdered_int : Nat := 165
def n_cmp_Less_int : Nat := 166
def n_slices_partitionEqualOrdered_int : Nat := 167
def n_slices_partitionOrdered_int : Nat := 168
def n_math_bits_Len32 : Nat := 169
def n_slices_siftDownOrdered_int : Nat := 170
def n_slices_nextPowerOfTwo : Nat := 171
def n_slices_xorshift_Next : Nat := 172
def n_slices_medianAdjacentOrdered_int : Nat := 173
def n_slices_medianOrdered_int : Nat := 174
def n_cmp_isNaN_int : Nat := 175
def n_slices_order2Ordered_int : Nat := 176
def n_runtime_boundsError_Error : Nat := 177
def n_runtime_boundsError_RuntimeError : Nat := 178
def n_runtime_errorString_Error : Nat := 179
def n_runtime_errorString_RuntimeError : Nat := 180
def n_runtime_plainError_Error : Nat := 181
def n_runtime_plainError_RuntimeError : Nat := 182
def n_runtime_errorAddressString_Error : Nat := 183
def n_runtime_errorAddressString_RuntimeError : Nat := 184
def n_runtime_TypeAssertionError_Error : Nat := 185
def n_runtime_TypeAssertionError_RuntimeError : Nat := 186
def n_runtime_PanicNilError_Error : Nat := 187
def n_runtime_PanicNilError_RuntimeError : Nat := 188
def n_abi_Type_Align : Nat := 189
def n_maps_unhashableTypeError_Error : Nat := 190
def n_maps_unhashableTypeError_RuntimeError : Nat := 191
def n_api_Errno_Error : Nat := 192
def n_abi_Kind_String : Nat := 193
def n_var_s_door_gosem_cut_vars_holds_initialisers_alone_see_the_manifest_s_row_cutvarsword_look_11_test_files_too : Nat := 194
def n_var_s_door_math_bits_deBruijn64tab_is_laid_by_its_own_initialiser_plain_data_look_11 : Nat := 195
def n_var_s_door_the_look_of_gosem_cut_vars_went_over_the_folder_that_the_caller_named_as_the_repository_s_root_look_11 : Nat := 196
def n_var_s_door_unicode_utf8_acceptRanges_is_laid_by_its_own_initialiser_plain_data_look_11 : Nat := 197
def n_var_s_door_unicode_utf8_first_is_laid_by_its_text_alone_pinned_1 : Nat := 198
def n_gosem_cut_vars : Nat := 199
/-- stratagem/stratagemlaw04.DomOwn -/
def b_law04_DomOwn_0 : IR := .seq (.rg [⟨(some 35), none, .bin .lss (.t 34) (.t 33)⟩] (some [1, 2, 5, 7, 27, 28, 33, 34, 35]))
   (.seq (.cond (.t 35) (.skip) (.ext 2))
   (.seq (.blk 3 (.seq (.rg [⟨(some 36), none, .mov (.t 34)⟩,
    ⟨(some 8), none, .mov (.t 36)⟩] (some [1, 2, 5, 7, 8, 27, 28, 33, 34]))
   (.rg [⟨(some 37), none, .fad 0 (.t 7)⟩,
    ⟨(some 38), none, .ld false 1 (.t 37)⟩,
    ⟨(some 39), none, .mov (.t 8)⟩,
    ⟨(some 40), none, .mov (.t 1)⟩,
    ⟨(some 41), none, .iad 1 (.t 38) (.t 39)⟩,
    ⟨none, none, .st 1 (.t 41) (.t 40)⟩] (some [1, 2, 5, 7, 27, 28, 33, 34]))))
   (.rg [⟨(some 42), none, .bin .add (.t 34) (.c (.int .i64 1))⟩,
    ⟨(some 34), none, .mov (.t 42)⟩] (some [1, 2, 5, 7, 27, 28, 33, 34]))))
def i_law04_DomOwn_l0 : IR := .loop b_law04_DomOwn_0
theorem r_law04_DomOwn_0 {C : Cx} {Y : Yl} {fr : Fr} {h : List Ob} : evw C Y i_law04_DomOwn_l0 fr h = nxt (evw C Y b_law04_DomOwn_0 fr h) fun fr h => evw C Y i_law04_DomOwn_l0 fr h := w_loop
def b_law04_DomOwn_1 : IR := .seq (.rg [⟨(some 29), none, .bin .lss (.t 28) (.c (.int .i64 2))⟩] (some [1, 2, 5, 27, 28, 29]))
   (.seq (.cond (.t 29) (.skip) (.ext 0))
   (.seq (.blk 1 (.seq (.rg [⟨(some 30), none, .op (.ixa 2 2 true) [(.t 27), (.t 28)]⟩,
    ⟨(some 7), none, .new (.agg [.nsl 1, .int .u64 0])⟩,
    ⟨none, none, .st 2 (.t 7) (.t 30)⟩] (some [1, 2, 5, 7, 27, 28]))
   (.seq (.rg [⟨(some 31), none, .fad 0 (.t 7)⟩,
    ⟨(some 32), none, .ld false 1 (.t 31)⟩,
    ⟨(some 33), none, .len (.t 32)⟩,
    ⟨(some 34), none, .mov (.c (.int .i64 0))⟩] (some [1, 2, 5, 7, 27, 28, 33, 34]))
   (.blk 2 (i_law04_DomOwn_l0)))))
   (.rg [⟨(some 43), none, .bin .add (.t 28) (.c (.int .i64 1))⟩,
    ⟨(some 28), none, .mov (.t 43)⟩] (some [1, 2, 5, 27, 28]))))
def i_law04_DomOwn_l1 : IR := .loop b_law04_DomOwn_1
theorem r_law04_DomOwn_1 {C : Cx} {Y : Yl} {fr : Fr} {h : List Ob} : evw C Y i_law04_DomOwn_l1 fr h = nxt (evw C Y b_law04_DomOwn_1 fr h) fun fr h => evw C Y i_law04_DomOwn_l1 fr h := w_loop
def b_law04_DomOwn_2 : IR := .seq (.rg [⟨(some 49), none, .bin .lss (.t 48) (.t 47)⟩] (some [1, 2, 5, 9, 47, 48, 49]))
   (.seq (.cond (.t 49) (.skip) (.ext 4))
   (.seq (.blk 5 (.seq (.rg [⟨(some 50), none, .mov (.t 48)⟩,
    ⟨(some 10), none, .mov (.t 50)⟩] (some [1, 2, 5, 9, 10, 47, 48]))
   (.rg [⟨(some 51), none, .mov (.t 9)⟩,
    ⟨(some 52), none, .mov (.t 10)⟩,
    ⟨(some 53), none, .mov (.t 1)⟩,
    ⟨(some 54), none, .iad 1 (.t 51) (.t 52)⟩,
    ⟨none, none, .st 1 (.t 54) (.t 53)⟩] (some [1, 2, 5, 9, 47, 48]))))
   (.rg [⟨(some 55), none, .bin .add (.t 48) (.c (.int .i64 1))⟩,
    ⟨(some 48), none, .mov (.t 55)⟩] (some [1, 2, 5, 9, 47, 48]))))
def i_law04_DomOwn_l2 : IR := .loop b_law04_DomOwn_2
theorem r_law04_DomOwn_2 {C : Cx} {Y : Yl} {fr : Fr} {h : List Ob} : evw C Y i_law04_DomOwn_l2 fr h = nxt (evw C Y b_law04_DomOwn_2 fr h) fun fr h => evw C Y i_law04_DomOwn_l2 fr h := w_loop
def i_law04_DomOwn : IR := .seq (.rg [⟨(some 2), none, .box (.t 0)⟩,
    ⟨(some 4), none, .mov (.c (.bool false))⟩] (some [1, 2]))
   (.seq (.seq (.rg [⟨(some 11), none, .call n_law04_awake []⟩,
    ⟨(some 12), none, .un .not (.t 11)⟩] (some [1, 2, 12]))
   (.cond (.t 12) (.seq (.rg [⟨(some 4), none, .mov (.c (.bool false))⟩] (some [4]))
   (.ret)) (.skip)))
   (.seq (.seq (.rg [⟨(some 13), none, .fad 0 (.t 2)⟩,
    ⟨(some 14), none, .ld false 1 (.t 13)⟩,
    ⟨(some 15), none, .len (.t 14)⟩,
    ⟨(some 16), none, .bin .gtr (.t 15) (.c (.int .i64 100))⟩] (some [1, 2, 16]))
   (.cond (.t 16) (.seq (.rg [⟨(some 4), none, .mov (.c (.bool true))⟩] (some [4]))
   (.ret)) (.skip)))
   (.seq (.rg [⟨(some 17), none, .bsl (.int .i64 0) 0 []⟩,
    ⟨(some 18), none, .fad 0 (.t 2)⟩,
    ⟨(some 19), none, .ld false 1 (.t 18)⟩,
    ⟨(some 20), none, .app 1 8 (.t 17) (.t 19)⟩,
    ⟨(some 5), none, .mov (.t 20)⟩] (some [1, 2, 5]))
   (.seq (.seq (.dc [(⟨(some 21), none, .ld true 2 (.t 2)⟩, [], false),
    (⟨(some 22), none, .mov (.t 1)⟩, [], false),
    (⟨(some 23), none, .call n_dom_Less [(.t 21), (.t 22)]⟩, [0, 1], true),
    (⟨(some 24), none, .ld true 2 (.t 2)⟩, [], false),
    (⟨(some 25), none, .mov (.t 1)⟩, [], false),
    (⟨(some 26), none, .call n_dom_Only [(.t 24), (.t 25)]⟩, [0, 1, 2, 3, 4], true),
    (⟨(some 27), none, .bld [.nsl 1, .int .u64 0, .nsl 1, .int .u64 0] [(0, 2, (.t 23)), (2, 2, (.t 26))]⟩, [0, 1, 2, 3, 4, 5], false),
    (⟨(some 28), none, .mov (.c (.int .i64 0))⟩, [], false)] (some [1, 2, 5, 27, 28]))
   (.blk 0 (i_law04_DomOwn_l1)))
   (.seq (.rg [⟨(some 44), none, .ld true 2 (.t 2)⟩,
    ⟨(some 45), none, .call n_dom_List [(.t 44)]⟩,
    ⟨(some 9), none, .mov (.t 45)⟩] (some [1, 2, 5, 9]))
   (.seq (.seq (.rg [⟨(some 46), none, .mov (.t 9)⟩,
    ⟨(some 47), none, .len (.t 46)⟩,
    ⟨(some 48), none, .mov (.c (.int .i64 0))⟩] (some [1, 2, 5, 9, 47, 48]))
   (.blk 4 (i_law04_DomOwn_l2)))
   (.seq (.rg [⟨(some 56), none, .fad 0 (.t 2)⟩,
    ⟨(some 57), none, .ld false 1 (.t 56)⟩,
    ⟨(some 58), none, .mov (.t 5)⟩,
    ⟨(some 59), none, .call n_ref02_Same [(.t 57), (.t 58)]⟩,
    ⟨(some 4), none, .mov (.t 59)⟩] (some [4]))
   (.ret))))))))
def F_law04_DomOwn : F := ⟨i_law04_DomOwn, [(4, none)], false⟩
/-- stratagem/stratagemref02.Same -/
def b_ref02_Same_0 : IR := .seq (.seq (.rg [⟨(some 11), none, .mov (.t 5)⟩,
    ⟨(some 12), none, .mov (.t 0)⟩,
    ⟨(some 13), none, .len (.t 12)⟩,
    ⟨(some 14), none, .bin .lss (.t 11) (.t 13)⟩] (some [0, 1, 5, 14]))
   (.cond (.t 14) (.skip) (.ext 0)))
   (.seq (.blk 1 (.seq (.dq [(⟨(some 17), none, .mov (.t 0)⟩, []),
    (⟨(some 18), none, .mov (.t 5)⟩, []),
    (⟨(some 19), none, .iad 1 (.t 17) (.t 18)⟩, [0, 1]),
    (⟨(some 20), none, .ld false 1 (.t 19)⟩, [0, 1, 2]),
    (⟨(some 21), none, .mov (.t 1)⟩, []),
    (⟨(some 22), none, .mov (.t 5)⟩, []),
    (⟨(some 23), none, .iad 1 (.t 21) (.t 22)⟩, [4, 5]),
    (⟨(some 24), none, .ld false 1 (.t 23)⟩, [4, 5, 6]),
    (⟨(some 25), none, .bin .neq (.t 20) (.t 24)⟩, [0, 1, 2, 3, 4, 5, 6, 7])] (some [0, 1, 5, 25]))
   (.cond (.t 25) (.seq (.rg [⟨(some 4), none, .mov (.c (.bool false))⟩] (some [4]))
   (.ret)) (.skip))))
   (.rg [⟨(some 15), none, .mov (.t 5)⟩,
    ⟨(some 16), none, .bin .add (.t 15) (.c (.int .i64 1))⟩,
    ⟨(some 5), none, .mov (.t 16)⟩] (some [0, 1, 5])))
def i_ref02_Same_l0 : IR := .loop b_ref02_Same_0
theorem r_ref02_Same_0 {C : Cx} {Y : Yl} {fr : Fr} {h : List Ob} : evw C Y i_ref02_Same_l0 fr h = nxt (evw C Y b_ref02_Same_0 fr h) fun fr h => evw C Y i_ref02_Same_l0 fr h := w_loop
def i_ref02_Same : IR := .seq (.rg [⟨(some 4), none, .mov (.c (.bool false))⟩] (some [0, 1]))
   (.seq (.seq (.rg [⟨(some 6), none, .mov (.t 0)⟩,
    ⟨(some 7), none, .len (.t 6)⟩,
    ⟨(some 8), none, .mov (.t 1)⟩,
    ⟨(some 9), none, .len (.t 8)⟩,
    ⟨(some 10), none, .bin .neq (.t 7) (.t 9)⟩] (some [0, 1, 10]))
   (.cond (.t 10) (.seq (.rg [⟨(some 4), none, .mov (.c (.bool false))⟩] (some [4]))
   (.ret)) (.skip)))
   (.seq (.seq (.rg [⟨(some 5), none, .mov (.c (.int .i64 0))⟩] (some [0, 1, 5]))
   (.blk 0 (i_ref02_Same_l0)))
   (.seq (.rg [⟨(some 4), none, .mov (.c (.bool true))⟩] (some [4]))
   (.ret))))
def F_ref02_Same : F := ⟨i_ref02_Same, [(4, none)], false⟩
/-- stratagem/stratagemlaw04.awake -/
def i_law04_awake : IR := .seq (.rg [⟨(some 0), none, .mov (.c (.bool false))⟩] (some []))
   (.seq (.rg [⟨(some 17), none, .bld [.int .i64 0, .int .i64 0] [(0, 1, (.c (.int .i64 1))), (1, 1, (.c (.int .i64 3)))]⟩,
    ⟨(some 18), none, .bld [.int .i64 0, .int .i64 0] [(0, 1, (.c (.int .i64 7))), (1, 1, (.c (.int .i64 9)))]⟩,
    ⟨(some 19), none, .bsf (.agg [.int .i64 0, .int .i64 0]) 2 [(0, (.t 17)), (1, (.t 18))]⟩,
    ⟨(some 20), none, .call n_dom_New [(.t 19)]⟩,
    ⟨(some 16), none, .mov (.t 20)⟩,
    ⟨(some 21), none, .ext (.t 16) 0⟩,
    ⟨(some 22), none, .ext (.t 16) 1⟩,
    ⟨(some 1), none, .new (.agg [.nsl 1, .int .u64 0])⟩,
    ⟨none, none, .st 2 (.t 1) (.t 21)⟩,
    ⟨(some 2), none, .mov (.t 22)⟩] (some [1, 2]))
   (.seq (.rg [⟨(some 24), none, .call n_dom_New [(.c (.nsl 2))]⟩,
    ⟨(some 23), none, .mov (.t 24)⟩,
    ⟨(some 25), none, .ext (.t 23) 0⟩,
    ⟨(some 26), none, .ext (.t 23) 1⟩,
    ⟨(some 3), none, .new (.agg [.nsl 1, .int .u64 0])⟩,
    ⟨none, none, .st 2 (.t 3) (.t 25)⟩,
    ⟨(some 4), none, .mov (.t 26)⟩] (some [1, 2, 4]))
   (.seq (.rg [⟨(some 28), none, .bld [.int .i64 0, .int .i64 0] [(0, 1, (.c (.int .i64 0))), (1, 1, (.c (.int .i64 64)))]⟩,
    ⟨(some 29), none, .bsf (.agg [.int .i64 0, .int .i64 0]) 1 [(0, (.t 28))]⟩,
    ⟨(some 30), none, .call n_dom_New [(.t 29)]⟩,
    ⟨(some 27), none, .mov (.t 30)⟩,
    ⟨(some 31), none, .ext (.t 27) 0⟩,
    ⟨(some 32), none, .ext (.t 27) 1⟩,
    ⟨(some 5), none, .new (.agg [.nsl 1, .int .u64 0])⟩,
    ⟨none, none, .st 2 (.t 5) (.t 31)⟩,
    ⟨(some 6), none, .mov (.t 32)⟩] (some [1, 2, 4, 6]))
   (.seq (.rg [⟨(some 33), none, .ld true 2 (.t 1)⟩,
    ⟨(some 34), none, .call n_dom_Between [(.t 33), (.c (.int .i64 2)), (.c (.int .i64 8))]⟩,
    ⟨(some 7), none, .new (.agg [.nsl 1, .int .u64 0])⟩,
    ⟨none, none, .st 2 (.t 7) (.t 34)⟩] (some [1, 2, 4, 6, 7]))
   (.seq (.rg [⟨(some 36), none, .ld true 2 (.t 1)⟩,
    ⟨(some 37), none, .call n_dom_Only [(.t 36), (.c (.int .i64 7))]⟩,
    ⟨(some 38), none, .call n_dom_Single [(.t 37)]⟩,
    ⟨(some 35), none, .mov (.t 38)⟩,
    ⟨(some 39), none, .ext (.t 35) 0⟩,
    ⟨(some 40), none, .ext (.t 35) 1⟩,
    ⟨(some 8), none, .mov (.t 39)⟩,
    ⟨(some 9), none, .mov (.t 40)⟩] (some [1, 2, 4, 6, 7, 8, 9]))
   (.seq (.rg [⟨(some 42), none, .ld true 2 (.t 1)⟩,
    ⟨(some 43), none, .call n_dom_Single [(.t 42)]⟩,
    ⟨(some 41), none, .mov (.t 43)⟩,
    ⟨(some 44), none, .ext (.t 41) 0⟩,
    ⟨(some 45), none, .ext (.t 41) 1⟩,
    ⟨(some 10), none, .mov (.t 44)⟩,
    ⟨(some 11), none, .mov (.t 45)⟩] (some [1, 2, 4, 6, 7, 8, 9, 11]))
   (.seq (.rg [⟨(some 47), none, .ld true 2 (.t 7)⟩,
    ⟨(some 48), none, .call n_dom_Least [(.t 47)]⟩,
    ⟨(some 46), none, .mov (.t 48)⟩,
    ⟨(some 49), none, .ext (.t 46) 0⟩,
    ⟨(some 50), none, .ext (.t 46) 1⟩,
    ⟨(some 12), none, .mov (.t 49)⟩,
    ⟨(some 13), none, .mov (.t 50)⟩] (some [1, 2, 4, 6, 7, 8, 9, 11, 12, 13]))
   (.seq (.rg [⟨(some 52), none, .ld true 2 (.t 7)⟩,
    ⟨(some 53), none, .call n_dom_Greatest [(.t 52)]⟩,
    ⟨(some 51), none, .mov (.t 53)⟩,
    ⟨(some 54), none, .ext (.t 51) 0⟩,
    ⟨(some 55), none, .ext (.t 51) 1⟩,
    ⟨(some 14), none, .mov (.t 54)⟩,
    ⟨(some 15), none, .mov (.t 55)⟩] (some [1, 2, 4, 6, 7, 8, 9, 11, 12, 13, 14, 15]))
   (.seq (.rg [⟨(some 56), none, .mov (.t 2)⟩,
    ⟨(some 57), none, .bin .eql (.t 56) (.c (.int .i64 0))⟩,
    ⟨(some 58), none, .mov (.t 57)⟩,
    ⟨(some 59), (some (58, true)), .mov (.t 4)⟩,
    ⟨(some 60), (some (58, true)), .bin .eql (.t 59) (.c (.int .i64 1))⟩,
    ⟨(some 61), none, .pick (.t 58) (.t 60) (.c (.bool false))⟩,
    ⟨(some 62), none, .mov (.t 61)⟩,
    ⟨(some 63), (some (62, true)), .mov (.t 6)⟩,
    ⟨(some 64), (some (62, true)), .bin .eql (.t 63) (.c (.int .i64 5))⟩,
    ⟨(some 65), none, .pick (.t 62) (.t 64) (.c (.bool false))⟩,
    ⟨(some 66), none, .mov (.t 65)⟩,
    ⟨(some 67), (some (66, true)), .ld true 2 (.t 7)⟩,
    ⟨(some 68), (some (66, true)), .call n_dom_List [(.t 67)]⟩,
    ⟨(some 69), (some (66, true)), .bsf (.int .i64 0) 4 [(0, (.c (.int .i64 2))), (1, (.c (.int .i64 3))), (2, (.c (.int .i64 7))), (3, (.c (.int .i64 8)))]⟩,
    ⟨(some 70), (some (66, true)), .call n_ref02_Same [(.t 68), (.t 69)]⟩,
    ⟨(some 71), none, .pick (.t 66) (.t 70) (.c (.bool false))⟩,
    ⟨(some 72), none, .mov (.t 71)⟩,
    ⟨(some 73), (some (72, true)), .ld true 2 (.t 7)⟩,
    ⟨(some 74), (some (72, true)), .call n_dom_Size [(.t 73)]⟩,
    ⟨(some 75), (some (72, true)), .bin .eql (.t 74) (.c (.int .i64 4))⟩,
    ⟨(some 76), none, .pick (.t 72) (.t 75) (.c (.bool false))⟩,
    ⟨(some 77), none, .mov (.t 76)⟩,
    ⟨(some 78), (some (77, true)), .mov (.t 8)⟩,
    ⟨(some 79), (some (77, true)), .bin .eql (.t 78) (.c (.int .i64 7))⟩,
    ⟨(some 80), none, .pick (.t 77) (.t 79) (.c (.bool false))⟩,
    ⟨(some 81), none, .mov (.t 80)⟩,
    ⟨(some 82), (some (81, true)), .mov (.t 9)⟩,
    ⟨(some 83), none, .pick (.t 81) (.t 82) (.c (.bool false))⟩,
    ⟨(some 84), none, .mov (.t 83)⟩,
    ⟨(some 85), (some (84, true)), .mov (.t 11)⟩,
    ⟨(some 86), (some (84, true)), .un .not (.t 85)⟩,
    ⟨(some 87), none, .pick (.t 84) (.t 86) (.c (.bool false))⟩,
    ⟨(some 88), none, .mov (.t 87)⟩,
    ⟨(some 89), (some (88, true)), .mov (.t 12)⟩,
    ⟨(some 90), (some (88, true)), .bin .eql (.t 89) (.c (.int .i64 2))⟩,
    ⟨(some 91), none, .pick (.t 88) (.t 90) (.c (.bool false))⟩,
    ⟨(some 92), none, .mov (.t 91)⟩,
    ⟨(some 93), (some (92, true)), .mov (.t 13)⟩,
    ⟨(some 94), none, .pick (.t 92) (.t 93) (.c (.bool false))⟩,
    ⟨(some 95), none, .mov (.t 94)⟩,
    ⟨(some 96), (some (95, true)), .mov (.t 14)⟩,
    ⟨(some 97), (some (95, true)), .bin .eql (.t 96) (.c (.int .i64 8))⟩,
    ⟨(some 98), none, .pick (.t 95) (.t 97) (.c (.bool false))⟩,
    ⟨(some 99), none, .mov (.t 98)⟩,
    ⟨(some 100), (some (99, true)), .mov (.t 15)⟩,
    ⟨(some 101), none, .pick (.t 99) (.t 100) (.c (.bool false))⟩,
    ⟨(some 102), none, .mov (.t 101)⟩,
    ⟨(some 103), (some (102, true)), .ld true 2 (.t 7)⟩,
    ⟨(some 104), (some (102, true)), .call n_dom_Has [(.t 103), (.c (.int .i64 3))]⟩,
    ⟨(some 105), none, .pick (.t 102) (.t 104) (.c (.bool false))⟩,
    ⟨(some 106), none, .mov (.t 105)⟩,
    ⟨(some 107), (some (106, true)), .ld true 2 (.t 7)⟩,
    ⟨(some 108), (some (106, true)), .call n_dom_Has [(.t 107), (.c (.int .i64 1))]⟩,
    ⟨(some 109), (some (106, true)), .un .not (.t 108)⟩,
    ⟨(some 110), none, .pick (.t 106) (.t 109) (.c (.bool false))⟩,
    ⟨(some 111), none, .mov (.t 110)⟩,
    ⟨(some 112), (some (111, true)), .ld true 2 (.t 7)⟩,
    ⟨(some 113), (some (111, true)), .call n_dom_Less [(.t 112), (.c (.int .i64 3))]⟩,
    ⟨(some 114), (some (111, true)), .call n_dom_List [(.t 113)]⟩,
    ⟨(some 115), (some (111, true)), .bsf (.int .i64 0) 3 [(0, (.c (.int .i64 2))), (1, (.c (.int .i64 7))), (2, (.c (.int .i64 8)))]⟩,
    ⟨(some 116), (some (111, true)), .call n_ref02_Same [(.t 114), (.t 115)]⟩,
    ⟨(some 117), none, .pick (.t 111) (.t 116) (.c (.bool false))⟩,
    ⟨(some 118), none, .mov (.t 117)⟩,
    ⟨(some 119), (some (118, true)), .ld true 2 (.t 7)⟩,
    ⟨(some 120), (some (118, true)), .call n_dom_Spans [(.t 119)]⟩,
    ⟨(some 121), (some (118, true)), .bld [.int .i64 0, .int .i64 0] [(0, 1, (.c (.int .i64 2))), (1, 1, (.c (.int .i64 3)))]⟩,
    ⟨(some 122), (some (118, true)), .bld [.int .i64 0, .int .i64 0] [(0, 1, (.c (.int .i64 7))), (1, 1, (.c (.int .i64 8)))]⟩,
    ⟨(some 123), (some (118, true)), .bsf (.agg [.int .i64 0, .int .i64 0]) 2 [(0, (.t 121)), (1, (.t 122))]⟩,
    ⟨(some 124), (some (118, true)), .call n_ref03_Same [(.t 120), (.t 123)]⟩,
    ⟨(some 125), none, .pick (.t 118) (.t 124) (.c (.bool false))⟩,
    ⟨(some 126), none, .mov (.t 125)⟩,
    ⟨(some 127), (some (126, true)), .ld true 2 (.t 7)⟩,
    ⟨(some 128), (some (126, true)), .call n_dom_May [(.t 127)]⟩,
    ⟨(some 129), none, .pick (.t 126) (.t 128) (.c (.bool false))⟩,
    ⟨(some 130), none, .mov (.t 129)⟩,
    ⟨(some 131), (some (130, true)), .bld [.nsl 1, .int .u64 0] [(1, 1, (.c (.int .u64 1)))]⟩,
    ⟨(some 132), (some (130, true)), .call n_dom_May [(.t 131)]⟩,
    ⟨(some 133), (some (130, true)), .un .not (.t 132)⟩,
    ⟨(some 134), none, .pick (.t 130) (.t 133) (.c (.bool false))⟩,
    ⟨(some 135), none, .mov (.t 134)⟩,
    ⟨(some 136), (some (135, true)), .ld true 2 (.t 7)⟩,
    ⟨(some 137), (some (135, true)), .ld true 2 (.t 7)⟩,
    ⟨(some 138), (some (135, true)), .call n_dom_Same [(.t 136), (.t 137)]⟩,
    ⟨(some 139), none, .pick (.t 135) (.t 138) (.c (.bool false))⟩,
    ⟨(some 140), none, .mov (.t 139)⟩,
    ⟨(some 141), (some (140, true)), .ld true 2 (.t 7)⟩,
    ⟨(some 142), (some (140, true)), .ld true 2 (.t 1)⟩,
    ⟨(some 143), (some (140, true)), .call n_dom_Same [(.t 141), (.t 142)]⟩,
    ⟨(some 144), (some (140, true)), .un .not (.t 143)⟩,
    ⟨(some 145), none, .pick (.t 140) (.t 144) (.c (.bool false))⟩,
    ⟨(some 0), none, .mov (.t 145)⟩] (some [0]))
   (.ret))))))))))
def F_law04_awake : F := ⟨i_law04_awake, [(0, none)], false⟩
/-- stratagem/dom.New -/
def b_dom_New_0 : IR := .seq (.seq (.rg [⟨(some 27), none, .mov (.t 8)⟩,
    ⟨(some 28), none, .fad 1 (.t 7)⟩,
    ⟨(some 29), none, .ld false 1 (.t 28)⟩,
    ⟨(some 30), none, .bin .leq (.t 27) (.t 29)⟩] (some [2, 4, 5, 7, 8, 19, 20, 21, 30]))
   (.cond (.t 30) (.skip) (.ext 3)))
   (.seq (.blk 4 (.rg [⟨(some 33), none, .fad 0 (.t 5)⟩,
    ⟨(some 34), none, .ld false 1 (.t 33)⟩,
    ⟨(some 35), none, .mov (.t 8)⟩,
    ⟨(some 36), none, .bsf (.int .i64 0) 1 [(0, (.t 35))]⟩,
    ⟨(some 37), none, .app 1 8 (.t 34) (.t 36)⟩,
    ⟨(some 38), none, .fad 0 (.t 5)⟩,
    ⟨none, none, .st 1 (.t 38) (.t 37)⟩] (some [2, 4, 5, 7, 8, 19, 20, 21])))
   (.rg [⟨(some 31), none, .mov (.t 8)⟩,
    ⟨(some 32), none, .bin .add (.t 31) (.c (.int .i64 1))⟩,
    ⟨(some 8), none, .mov (.t 32)⟩] (some [2, 4, 5, 7, 8, 19, 20, 21])))
def i_dom_New_l0 : IR := .loop b_dom_New_0
theorem r_dom_New_0 {C : Cx} {Y : Yl} {fr : Fr} {h : List Ob} : evw C Y i_dom_New_l0 fr h = nxt (evw C Y b_dom_New_0 fr h) fun fr h => evw C Y i_dom_New_l0 fr h := w_loop
def b_dom_New_1 : IR := .seq (.rg [⟨(some 22), none, .bin .lss (.t 21) (.t 20)⟩] (some [2, 4, 5, 19, 20, 21, 22]))
   (.seq (.cond (.t 22) (.skip) (.ext 1))
   (.seq (.blk 2 (.seq (.rg [⟨(some 23), none, .iad 2 (.t 19) (.t 21)⟩,
    ⟨(some 24), none, .ld true 2 (.t 23)⟩,
    ⟨(some 7), none, .new (.agg [.int .i64 0, .int .i64 0])⟩,
    ⟨none, none, .st 2 (.t 7) (.t 24)⟩] (some [2, 4, 5, 7, 19, 20, 21]))
   (.seq (.rg [⟨(some 25), none, .fad 0 (.t 7)⟩,
    ⟨(some 26), none, .ld false 1 (.t 25)⟩,
    ⟨(some 8), none, .mov (.t 26)⟩] (some [2, 4, 5, 7, 8, 19, 20, 21]))
   (.blk 3 (i_dom_New_l0)))))
   (.rg [⟨(some 39), none, .bin .add (.t 21) (.c (.int .i64 1))⟩,
    ⟨(some 21), none, .mov (.t 39)⟩] (some [2, 4, 5, 19, 20, 21]))))
def i_dom_New_l1 : IR := .loop b_dom_New_1
theorem r_dom_New_1 {C : Cx} {Y : Yl} {fr : Fr} {h : List Ob} : evw C Y i_dom_New_l1 fr h = nxt (evw C Y b_dom_New_1 fr h) fun fr h => evw C Y i_dom_New_l1 fr h := w_loop
def i_dom_New : IR := .seq (.rg [⟨(some 2), none, .new (.agg [.nsl 1, .int .u64 0])⟩,
    ⟨(some 3), none, .mov (.c (.int .i64 0))⟩] (some [0, 2]))
   (.seq (.rg [⟨(some 9), none, .mov (.t 0)⟩,
    ⟨(some 10), none, .call n_spans_Size [(.t 9)]⟩,
    ⟨(some 4), none, .mov (.t 10)⟩] (some [0, 2, 4]))
   (.seq (.blk 0 (.seq (.rg [⟨(some 12), none, .mov (.t 4)⟩,
    ⟨(some 13), none, .bin .eql (.t 12) (.c (.int .i64 0))⟩,
    ⟨(some 11), none, .mov (.t 13)⟩] (some [0, 2, 4, 11]))
   (.cond (.t 11) (.seq (.rg [⟨(some 14), none, .bld [.nsl 1, .int .u64 0] []⟩,
    ⟨none, none, .st 2 (.t 2) (.t 14)⟩,
    ⟨(some 3), none, .mov (.c (.int .i64 1))⟩] (some [2, 3]))
   (.ret)) (.seq (.rg [⟨(some 16), none, .mov (.t 4)⟩,
    ⟨(some 17), none, .bin .gtr (.t 16) (.c (.int .i64 64))⟩,
    ⟨(some 15), none, .mov (.t 17)⟩] (some [0, 2, 4, 15]))
   (.cond (.t 15) (.seq (.rg [⟨(some 18), none, .bld [.nsl 1, .int .u64 0] []⟩,
    ⟨none, none, .st 2 (.t 2) (.t 18)⟩,
    ⟨(some 3), none, .mov (.c (.int .i64 5))⟩] (some [2, 3]))
   (.ret)) (.skip))))))
   (.seq (.rg [⟨(some 5), none, .new (.agg [.nsl 1, .int .u64 0])⟩] (some [0, 2, 4, 5]))
   (.seq (.seq (.rg [⟨(some 19), none, .mov (.t 0)⟩,
    ⟨(some 20), none, .len (.t 19)⟩,
    ⟨(some 21), none, .mov (.c (.int .i64 0))⟩] (some [2, 4, 5, 19, 20, 21]))
   (.blk 1 (i_dom_New_l1)))
   (.seq (.rg [⟨(some 40), none, .mov (.t 4)⟩,
    ⟨(some 41), none, .call n_bits_First [(.t 40)]⟩,
    ⟨(some 42), none, .fad 1 (.t 5)⟩,
    ⟨none, none, .st 1 (.t 42) (.t 41)⟩] (some [2, 5]))
   (.seq (.rg [⟨(some 43), none, .ld true 2 (.t 5)⟩,
    ⟨none, none, .st 2 (.t 2) (.t 43)⟩,
    ⟨(some 3), none, .mov (.c (.int .i64 0))⟩] (some [2, 3]))
   (.ret)))))))
def F_dom_New : F := ⟨i_dom_New, [(2, some (true, 2)), (3, none)], false⟩
/-- stratagem/dom.Least -/
def i_dom_Least : IR := .seq (.rg [⟨(some 1), none, .box (.t 0)⟩,
    ⟨(some 2), none, .mov (.c (.int .i64 0))⟩,
    ⟨(some 3), none, .mov (.c (.bool false))⟩] (some [1]))
   (.seq (.seq (.rg [⟨(some 4), none, .ld true 2 (.t 1)⟩,
    ⟨(some 5), none, .call n_dom_May [(.t 4)]⟩,
    ⟨(some 6), none, .un .not (.t 5)⟩] (some [1, 6]))
   (.cond (.t 6) (.seq (.rg [⟨(some 2), none, .mov (.c (.int .i64 0))⟩,
    ⟨(some 3), none, .mov (.c (.bool false))⟩] (some [2, 3]))
   (.ret)) (.skip)))
   (.seq (.dq [(⟨(some 7), none, .ld true 2 (.t 1)⟩, []),
    (⟨(some 8), none, .fad 1 (.t 1)⟩, []),
    (⟨(some 9), none, .ld false 1 (.t 8)⟩, [1]),
    (⟨(some 10), none, .call n_bits_Least [(.t 9)]⟩, [1, 2]),
    (⟨(some 11), none, .call n_dom_at [(.t 7), (.t 10)]⟩, [0, 1, 2, 3]),
    (⟨(some 12), none, .ext (.t 11) 0⟩, [0, 1, 2, 3, 4]),
    (⟨(some 13), none, .ext (.t 11) 1⟩, [0, 1, 2, 3, 4]),
    (⟨(some 2), none, .mov (.t 12)⟩, [0, 1, 2, 3, 4, 5, 6]),
    (⟨(some 3), none, .mov (.t 13)⟩, [0, 1, 2, 3, 4, 5, 6, 7])] (some [2, 3]))
   (.ret)))
def F_dom_Least : F := ⟨i_dom_Least, [(2, none), (3, none)], false⟩
/-- stratagem/dom.Greatest -/
def i_dom_Greatest : IR := .seq (.rg [⟨(some 1), none, .box (.t 0)⟩,
    ⟨(some 2), none, .mov (.c (.int .i64 0))⟩,
    ⟨(some 3), none, .mov (.c (.bool false))⟩] (some [1]))
   (.seq (.seq (.rg [⟨(some 4), none, .ld true 2 (.t 1)⟩,
    ⟨(some 5), none, .call n_dom_May [(.t 4)]⟩,
    ⟨(some 6), none, .un .not (.t 5)⟩] (some [1, 6]))
   (.cond (.t 6) (.seq (.rg [⟨(some 2), none, .mov (.c (.int .i64 0))⟩,
    ⟨(some 3), none, .mov (.c (.bool false))⟩] (some [2, 3]))
   (.ret)) (.skip)))
   (.seq (.dq [(⟨(some 7), none, .ld true 2 (.t 1)⟩, []),
    (⟨(some 8), none, .fad 1 (.t 1)⟩, []),
    (⟨(some 9), none, .ld false 1 (.t 8)⟩, [1]),
    (⟨(some 10), none, .call n_bits_Greatest [(.t 9)]⟩, [1, 2]),
    (⟨(some 11), none, .call n_dom_at [(.t 7), (.t 10)]⟩, [0, 1, 2, 3]),
    (⟨(some 12), none, .ext (.t 11) 0⟩, [0, 1, 2, 3, 4]),
    (⟨(some 13), none, .ext (.t 11) 1⟩, [0, 1, 2, 3, 4]),
    (⟨(some 2), none, .mov (.t 12)⟩, [0, 1, 2, 3, 4, 5, 6]),
    (⟨(some 3), none, .mov (.t 13)⟩, [0, 1, 2, 3, 4, 5, 6, 7])] (some [2, 3]))
   (.ret)))
def F_dom_Greatest : F := ⟨i_dom_Greatest, [(2, none), (3, none)], false⟩
/-- stratagem/dom.Single -/
def i_dom_Single : IR := .seq (.rg [⟨(some 1), none, .box (.t 0)⟩,
    ⟨(some 2), none, .mov (.c (.int .i64 0))⟩,
    ⟨(some 3), none, .mov (.c (.bool false))⟩] (some [1]))
   (.seq (.seq (.rg [⟨(some 4), none, .ld true 2 (.t 1)⟩,
    ⟨(some 5), none, .call n_dom_Size [(.t 4)]⟩,
    ⟨(some 6), none, .bin .neq (.t 5) (.c (.int .i64 1))⟩] (some [1, 6]))
   (.cond (.t 6) (.seq (.rg [⟨(some 2), none, .mov (.c (.int .i64 0))⟩,
    ⟨(some 3), none, .mov (.c (.bool false))⟩] (some [2, 3]))
   (.ret)) (.skip)))
   (.seq (.rg [⟨(some 7), none, .ld true 2 (.t 1)⟩,
    ⟨(some 8), none, .call n_dom_Least [(.t 7)]⟩,
    ⟨(some 9), none, .ext (.t 8) 0⟩,
    ⟨(some 10), none, .ext (.t 8) 1⟩,
    ⟨(some 2), none, .mov (.t 9)⟩,
    ⟨(some 3), none, .mov (.t 10)⟩] (some [2, 3]))
   (.ret)))
def F_dom_Single : F := ⟨i_dom_Single, [(2, none), (3, none)], false⟩
/-- stratagem/dom.May -/
def b_dom_May_0 : IR := .seq (.rg [⟨(some 23), none, .bin .lss (.t 22) (.t 21)⟩] (some [1, 20, 21, 22, 23]))
   (.seq (.cond (.t 23) (.skip) (.ext 0))
   (.seq (.blk 1 (.seq (.rg [⟨(some 24), none, .mov (.t 22)⟩,
    ⟨(some 25), none, .iad 1 (.t 20) (.t 22)⟩,
    ⟨(some 26), none, .ld false 1 (.t 25)⟩,
    ⟨(some 4), none, .mov (.t 24)⟩,
    ⟨(some 5), none, .mov (.t 26)⟩] (some [1, 4, 5, 20, 21, 22]))
   (.seq (.rg [⟨(some 27), none, .mov (.t 5)⟩,
    ⟨(some 28), none, .bin .lss (.t 27) (.c (.int .i64 (-1048576)))⟩,
    ⟨(some 29), none, .mov (.t 28)⟩,
    ⟨(some 30), (some (29, false)), .mov (.t 5)⟩,
    ⟨(some 31), (some (29, false)), .bin .gtr (.t 30) (.c (.int .i64 1048576))⟩,
    ⟨(some 32), none, .pick (.t 29) (.c (.bool true)) (.t 31)⟩,
    ⟨(some 33), none, .mov (.t 32)⟩,
    ⟨(some 34), (some (33, false)), .mov (.t 4)⟩,
    ⟨(some 35), (some (33, false)), .bin .gtr (.t 34) (.c (.int .i64 0))⟩,
    ⟨(some 36), (some (33, false)), .mov (.t 35)⟩,
    ⟨(some 37), (some (36, true)), .mov (.t 5)⟩,
    ⟨(some 38), (some (36, true)), .fad 0 (.t 1)⟩,
    ⟨(some 39), (some (36, true)), .ld false 1 (.t 38)⟩,
    ⟨(some 40), (some (36, true)), .mov (.t 4)⟩,
    ⟨(some 41), (some (36, true)), .bin .sub (.t 40) (.c (.int .i64 1))⟩,
    ⟨(some 42), (some (36, true)), .iad 1 (.t 39) (.t 41)⟩,
    ⟨(some 43), (some (36, true)), .ld false 1 (.t 42)⟩,
    ⟨(some 44), (some (36, true)), .bin .leq (.t 37) (.t 43)⟩,
    ⟨(some 45), (some (33, false)), .pick (.t 36) (.t 44) (.c (.bool false))⟩,
    ⟨(some 46), none, .pick (.t 33) (.c (.bool true)) (.t 45)⟩] (some [1, 20, 21, 22, 46]))
   (.cond (.t 46) (.seq (.rg [⟨(some 2), none, .mov (.c (.bool false))⟩] (some [2]))
   (.ret)) (.skip)))))
   (.rg [⟨(some 47), none, .bin .add (.t 22) (.c (.int .i64 1))⟩,
    ⟨(some 22), none, .mov (.t 47)⟩] (some [1, 20, 21, 22]))))
def i_dom_May_l0 : IR := .loop b_dom_May_0
theorem r_dom_May_0 {C : Cx} {Y : Yl} {fr : Fr} {h : List Ob} : evw C Y i_dom_May_l0 fr h = nxt (evw C Y b_dom_May_0 fr h) fun fr h => evw C Y i_dom_May_l0 fr h := w_loop
def i_dom_May : IR := .seq (.rg [⟨(some 1), none, .box (.t 0)⟩,
    ⟨(some 2), none, .mov (.c (.bool false))⟩] (some [1]))
   (.seq (.rg [⟨(some 6), none, .fad 0 (.t 1)⟩,
    ⟨(some 7), none, .ld false 1 (.t 6)⟩,
    ⟨(some 8), none, .len (.t 7)⟩,
    ⟨(some 3), none, .mov (.t 8)⟩] (some [1, 3]))
   (.seq (.seq (.dq [(⟨(some 9), none, .mov (.t 3)⟩, []),
    (⟨(some 10), none, .bin .gtr (.t 9) (.c (.int .i64 64))⟩, [0]),
    (⟨(some 11), none, .mov (.t 10)⟩, [0, 1]),
    (⟨(some 12), (some (11, false)), .fad 1 (.t 1)⟩, [0, 1, 2]),
    (⟨(some 13), (some (11, false)), .ld false 1 (.t 12)⟩, [0, 1, 2, 3]),
    (⟨(some 14), (some (11, false)), .mov (.t 3)⟩, [0, 1, 2]),
    (⟨(some 15), (some (11, false)), .call n_bits_First [(.t 14)]⟩, [0, 1, 2, 5]),
    (⟨(some 16), (some (11, false)), .bin .andNot (.t 13) (.t 15)⟩, [0, 1, 2, 3, 4, 5, 6]),
    (⟨(some 17), (some (11, false)), .bin .neq (.t 16) (.c (.int .u64 0))⟩, [0, 1, 2, 3, 4, 5, 6, 7]),
    (⟨(some 18), none, .pick (.t 11) (.c (.bool true)) (.t 17)⟩, [0, 1, 2, 3, 4, 5, 6, 7, 8])] (some [1, 18]))
   (.cond (.t 18) (.seq (.rg [⟨(some 2), none, .mov (.c (.bool false))⟩] (some [2]))
   (.ret)) (.skip)))
   (.seq (.seq (.rg [⟨(some 19), none, .fad 0 (.t 1)⟩,
    ⟨(some 20), none, .ld false 1 (.t 19)⟩,
    ⟨(some 21), none, .len (.t 20)⟩,
    ⟨(some 22), none, .mov (.c (.int .i64 0))⟩] (some [1, 20, 21, 22]))
   (.blk 0 (i_dom_May_l0)))
   (.seq (.rg [⟨(some 2), none, .mov (.c (.bool true))⟩] (some [2]))
   (.ret)))))
def F_dom_May : F := ⟨i_dom_May, [(2, none)], false⟩
/-- stratagem/dom.Size -/
def i_dom_Size : IR := .seq (.rg [⟨(some 1), none, .box (.t 0)⟩,
    ⟨(some 2), none, .mov (.c (.int .i64 0))⟩] (some [1]))
   (.seq (.rg [⟨(some 3), none, .ld true 2 (.t 1)⟩,
    ⟨(some 4), none, .call n_dom_asked_int [(.t 3), (.c (.fn (.func n_dom_Size_1) [] []))]⟩,
    ⟨(some 2), none, .mov (.t 4)⟩] (some [2]))
   (.ret))
def F_dom_Size : F := ⟨i_dom_Size, [(2, none)], false⟩
/-- stratagem/dom.List -/
def i_dom_List : IR := .seq (.rg [⟨(some 1), none, .box (.t 0)⟩,
    ⟨(some 2), none, .mov (.c (.nsl 1))⟩] (some [1]))
   (.seq (.rg [⟨(some 3), none, .ld true 2 (.t 1)⟩,
    ⟨(some 4), none, .call n_dom_asked_sint [(.t 3), (.c (.fn (.func n_dom_List_1) [] []))]⟩,
    ⟨(some 2), none, .mov (.t 4)⟩] (some [2]))
   (.ret))
def F_dom_List : F := ⟨i_dom_List, [(2, none)], true⟩
/-- stratagem/dom.Has -/
def i_dom_Has : IR := .seq (.rg [⟨(some 2), none, .box (.t 0)⟩,
    ⟨(some 4), none, .mov (.c (.bool false))⟩] (some [1, 2]))
   (.seq (.rg [⟨(some 5), none, .ld true 2 (.t 2)⟩,
    ⟨(some 6), none, .call n_dom_List [(.t 5)]⟩,
    ⟨(some 7), none, .mov (.t 1)⟩,
    ⟨(some 8), none, .call n_slices_Contains_sint_int [(.t 6), (.t 7)]⟩,
    ⟨(some 4), none, .mov (.t 8)⟩] (some [4]))
   (.ret))
def F_dom_Has : F := ⟨i_dom_Has, [(4, none)], false⟩
/-- stratagem/stratagemref03.Same -/
def b_ref03_Same_0 : IR := .seq (.seq (.rg [⟨(some 11), none, .mov (.t 5)⟩,
    ⟨(some 12), none, .mov (.t 0)⟩,
    ⟨(some 13), none, .len (.t 12)⟩,
    ⟨(some 14), none, .bin .lss (.t 11) (.t 13)⟩] (some [0, 1, 5, 14]))
   (.cond (.t 14) (.skip) (.ext 0)))
   (.seq (.blk 1 (.seq (.dq [(⟨(some 17), none, .mov (.t 0)⟩, []),
    (⟨(some 18), none, .mov (.t 5)⟩, []),
    (⟨(some 19), none, .iad 2 (.t 17) (.t 18)⟩, [0, 1]),
    (⟨(some 20), none, .ld true 2 (.t 19)⟩, [0, 1, 2]),
    (⟨(some 21), none, .mov (.t 1)⟩, []),
    (⟨(some 22), none, .mov (.t 5)⟩, []),
    (⟨(some 23), none, .iad 2 (.t 21) (.t 22)⟩, [4, 5]),
    (⟨(some 24), none, .ld true 2 (.t 23)⟩, [4, 5, 6]),
    (⟨(some 25), none, .eq true (.agg [(0, 1, .int), (1, 1, .int)]) (.t 20) (.t 24)⟩, [0, 1, 2, 3, 4, 5, 6, 7])] (some [0, 1, 5, 25]))
   (.cond (.t 25) (.seq (.rg [⟨(some 4), none, .mov (.c (.bool false))⟩] (some [4]))
   (.ret)) (.skip))))
   (.rg [⟨(some 15), none, .mov (.t 5)⟩,
    ⟨(some 16), none, .bin .add (.t 15) (.c (.int .i64 1))⟩,
    ⟨(some 5), none, .mov (.t 16)⟩] (some [0, 1, 5])))
def i_ref03_Same_l0 : IR := .loop b_ref03_Same_0
theorem r_ref03_Same_0 {C : Cx} {Y : Yl} {fr : Fr} {h : List Ob} : evw C Y i_ref03_Same_l0 fr h = nxt (evw C Y b_ref03_Same_0 fr h) fun fr h => evw C Y i_ref03_Same_l0 fr h := w_loop
def i_ref03_Same : IR := .seq (.rg [⟨(some 4), none, .mov (.c (.bool false))⟩] (some [0, 1]))
   (.seq (.seq (.rg [⟨(some 6), none, .mov (.t 0)⟩,
    ⟨(some 7), none, .len (.t 6)⟩,
    ⟨(some 8), none, .mov (.t 1)⟩,
    ⟨(some 9), none, .len (.t 8)⟩,
    ⟨(some 10), none, .bin .neq (.t 7) (.t 9)⟩] (some [0, 1, 10]))
   (.cond (.t 10) (.seq (.rg [⟨(some 4), none, .mov (.c (.bool false))⟩] (some [4]))
   (.ret)) (.skip)))
   (.seq (.seq (.rg [⟨(some 5), none, .mov (.c (.int .i64 0))⟩] (some [0, 1, 5]))
   (.blk 0 (i_ref03_Same_l0)))
   (.seq (.rg [⟨(some 4), none, .mov (.c (.bool true))⟩] (some [4]))
   (.ret))))
def F_ref03_Same : F := ⟨i_ref03_Same, [(4, none)], false⟩
/-- stratagem/dom.Spans -/
def i_dom_Spans : IR := .seq (.rg [⟨(some 1), none, .box (.t 0)⟩,
    ⟨(some 2), none, .mov (.c (.nsl 2))⟩] (some [1]))
   (.seq (.rg [⟨(some 6), none, .ld true 2 (.t 1)⟩,
    ⟨(some 7), none, .call n_dom_List [(.t 6)]⟩,
    ⟨(some 8), none, .call n_spans_Of [(.t 7)]⟩,
    ⟨(some 5), none, .mov (.t 8)⟩,
    ⟨(some 9), none, .ext (.t 5) 0⟩,
    ⟨(some 10), none, .ext (.t 5) 1⟩,
    ⟨(some 3), none, .mov (.t 9)⟩,
    ⟨(some 4), none, .mov (.t 10)⟩] (some [3]))
   (.seq (.rg [⟨(some 11), none, .mov (.t 3)⟩,
    ⟨(some 2), none, .mov (.t 11)⟩] (some [2]))
   (.ret)))
def F_dom_Spans : F := ⟨i_dom_Spans, [(2, none)], false⟩
/-- stratagem/dom.Only -/
def i_dom_Only : IR := .seq (.rg [⟨(some 2), none, .box (.t 0)⟩,
    ⟨(some 3), none, .box (.t 1)⟩,
    ⟨(some 4), none, .new (.agg [.nsl 1, .int .u64 0])⟩] (some [2, 3, 4]))
   (.seq (.rg [⟨(some 5), none, .ld true 2 (.t 2)⟩,
    ⟨(some 6), none, .mkf (.func n_dom_Only_1) [] [(.t 3)]⟩,
    ⟨(some 7), none, .call n_dom_kept [(.t 5), (.t 6)]⟩,
    ⟨none, none, .st 2 (.t 4) (.t 7)⟩] (some [4]))
   (.ret))
def F_dom_Only : F := ⟨i_dom_Only, [(4, some (true, 2))], true⟩
/-- stratagem/dom.Less -/
def i_dom_Less : IR := .seq (.rg [⟨(some 2), none, .box (.t 0)⟩,
    ⟨(some 3), none, .box (.t 1)⟩,
    ⟨(some 4), none, .new (.agg [.nsl 1, .int .u64 0])⟩] (some [2, 3, 4]))
   (.seq (.rg [⟨(some 5), none, .ld true 2 (.t 2)⟩,
    ⟨(some 6), none, .mkf (.func n_dom_Less_1) [] [(.t 3)]⟩,
    ⟨(some 7), none, .call n_dom_kept [(.t 5), (.t 6)]⟩,
    ⟨none, none, .st 2 (.t 4) (.t 7)⟩] (some [4]))
   (.ret))
def F_dom_Less : F := ⟨i_dom_Less, [(4, some (true, 2))], true⟩
/-- stratagem/dom.Between -/
def i_dom_Between : IR := .seq (.rg [⟨(some 3), none, .box (.t 0)⟩,
    ⟨(some 4), none, .box (.t 1)⟩,
    ⟨(some 5), none, .box (.t 2)⟩,
    ⟨(some 6), none, .new (.agg [.nsl 1, .int .u64 0])⟩] (some [3, 4, 5, 6]))
   (.seq (.rg [⟨(some 7), none, .ld true 2 (.t 3)⟩,
    ⟨(some 8), none, .mkf (.func n_dom_Between_1) [] [(.t 4), (.t 5)]⟩,
    ⟨(some 9), none, .call n_dom_kept [(.t 7), (.t 8)]⟩,
    ⟨none, none, .st 2 (.t 6) (.t 9)⟩] (some [6]))
   (.ret))
def F_dom_Between : F := ⟨i_dom_Between, [(6, some (true, 2))], false⟩
/-- stratagem/dom.Same -/
def i_dom_Same : IR := .seq (.rg [⟨(some 2), none, .box (.t 0)⟩,
    ⟨(some 3), none, .box (.t 1)⟩,
    ⟨(some 4), none, .mov (.c (.bool false))⟩] (some [2, 3]))
   (.seq (.rg [⟨(some 5), none, .fad 1 (.t 2)⟩,
    ⟨(some 6), none, .ld false 1 (.t 5)⟩,
    ⟨(some 7), none, .fad 1 (.t 3)⟩,
    ⟨(some 8), none, .ld false 1 (.t 7)⟩,
    ⟨(some 9), none, .bin .eql (.t 6) (.t 8)⟩,
    ⟨(some 10), none, .mov (.t 9)⟩,
    ⟨(some 11), (some (10, true)), .fad 0 (.t 2)⟩,
    ⟨(some 12), (some (10, true)), .ld false 1 (.t 11)⟩,
    ⟨(some 13), (some (10, true)), .fad 0 (.t 3)⟩,
    ⟨(some 14), (some (10, true)), .ld false 1 (.t 13)⟩,
    ⟨(some 15), (some (10, true)), .call n_slices_Equal_sint_int [(.t 12), (.t 14)]⟩,
    ⟨(some 16), none, .pick (.t 10) (.t 15) (.c (.bool false))⟩,
    ⟨(some 4), none, .mov (.t 16)⟩] (some [4]))
   (.ret))
def F_dom_Same : F := ⟨i_dom_Same, [(4, none)], false⟩
/-- stratagem/spans.Size -/
def b_spans_Size_0 : IR := .seq (.rg [⟨(some 12), none, .bin .lss (.t 11) (.t 10)⟩] (some [3, 9, 10, 11, 12]))
   (.seq (.cond (.t 12) (.skip) (.ext 0))
   (.seq (.blk 1 (.seq (.rg [⟨(some 13), none, .iad 2 (.t 9) (.t 11)⟩,
    ⟨(some 14), none, .ld true 2 (.t 13)⟩,
    ⟨(some 5), none, .new (.agg [.int .i64 0, .int .i64 0])⟩,
    ⟨none, none, .st 2 (.t 5) (.t 14)⟩] (some [3, 5, 9, 10, 11]))
   (.rg [⟨(some 15), none, .mov (.t 3)⟩,
    ⟨(some 16), none, .fad 1 (.t 5)⟩,
    ⟨(some 17), none, .ld false 1 (.t 16)⟩,
    ⟨(some 18), none, .fad 0 (.t 5)⟩,
    ⟨(some 19), none, .ld false 1 (.t 18)⟩,
    ⟨(some 20), none, .bin .sub (.t 17) (.t 19)⟩,
    ⟨(some 21), none, .bin .add (.t 20) (.c (.int .i64 1))⟩,
    ⟨(some 22), none, .bin .add (.t 15) (.t 21)⟩,
    ⟨(some 3), none, .mov (.t 22)⟩] (some [3, 9, 10, 11]))))
   (.rg [⟨(some 23), none, .bin .add (.t 11) (.c (.int .i64 1))⟩,
    ⟨(some 11), none, .mov (.t 23)⟩] (some [3, 9, 10, 11]))))
def i_spans_Size_l0 : IR := .loop b_spans_Size_0
theorem r_spans_Size_0 {C : Cx} {Y : Yl} {fr : Fr} {h : List Ob} : evw C Y i_spans_Size_l0 fr h = nxt (evw C Y b_spans_Size_0 fr h) fun fr h => evw C Y i_spans_Size_l0 fr h := w_loop
def i_spans_Size : IR := .seq (.rg [⟨(some 2), none, .mov (.c (.int .i64 0))⟩] (some [0]))
   (.seq (.seq (.rg [⟨(some 6), none, .mov (.t 0)⟩,
    ⟨(some 7), none, .call n_spans_Right [(.t 6)]⟩,
    ⟨(some 8), none, .un .not (.t 7)⟩] (some [0, 8]))
   (.cond (.t 8) (.seq (.rg [⟨(some 2), none, .mov (.c (.int .i64 0))⟩] (some [2]))
   (.ret)) (.skip)))
   (.seq (.rg [⟨(some 3), none, .mov (.c (.int .i64 0))⟩] (some [0, 3]))
   (.seq (.seq (.rg [⟨(some 9), none, .mov (.t 0)⟩,
    ⟨(some 10), none, .len (.t 9)⟩,
    ⟨(some 11), none, .mov (.c (.int .i64 0))⟩] (some [3, 9, 10, 11]))
   (.blk 0 (i_spans_Size_l0)))
   (.seq (.rg [⟨(some 24), none, .mov (.t 3)⟩,
    ⟨(some 2), none, .mov (.t 24)⟩] (some [2]))
   (.ret)))))
def F_spans_Size : F := ⟨i_spans_Size, [(2, none)], false⟩
/-- stratagem/bits.First -/
def i_bits_First : IR := .seq (.rg [⟨(some 2), none, .mov (.c (.int .u64 0))⟩] (some [0]))
   (.seq (.blk 0 (.seq (.rg [⟨(some 4), none, .mov (.t 0)⟩,
    ⟨(some 5), none, .bin .leq (.t 4) (.c (.int .i64 0))⟩,
    ⟨(some 3), none, .mov (.t 5)⟩] (some [0, 3]))
   (.cond (.t 3) (.seq (.rg [⟨(some 2), none, .mov (.c (.int .u64 0))⟩] (some [2]))
   (.ret)) (.seq (.rg [⟨(some 7), none, .mov (.t 0)⟩,
    ⟨(some 8), none, .bin .geq (.t 7) (.c (.int .i64 64))⟩,
    ⟨(some 6), none, .mov (.t 8)⟩] (some [0, 6]))
   (.cond (.t 6) (.seq (.rg [⟨(some 2), none, .mov (.c (.int .u64 18446744073709551615))⟩] (some [2]))
   (.ret)) (.skip))))))
   (.seq (.rg [⟨(some 9), none, .mov (.t 0)⟩,
    ⟨(some 10), none, .bin .shl (.c (.int .u64 1)) (.t 9)⟩,
    ⟨(some 11), none, .bin .sub (.t 10) (.c (.int .u64 1))⟩,
    ⟨(some 2), none, .mov (.t 11)⟩] (some [2]))
   (.ret)))
def F_bits_First : F := ⟨i_bits_First, [(2, none)], false⟩
/-- stratagem/dom.at -/
def i_dom_at : IR := .seq (.rg [⟨(some 2), none, .box (.t 0)⟩,
    ⟨(some 4), none, .mov (.c (.int .i64 0))⟩,
    ⟨(some 5), none, .mov (.c (.bool false))⟩] (some [1, 2]))
   (.seq (.seq (.rg [⟨(some 6), none, .mov (.t 1)⟩,
    ⟨(some 7), none, .bin .lss (.t 6) (.c (.int .i64 0))⟩] (some [1, 2, 7]))
   (.cond (.t 7) (.seq (.rg [⟨(some 4), none, .mov (.c (.int .i64 0))⟩,
    ⟨(some 5), none, .mov (.c (.bool false))⟩] (some [4, 5]))
   (.ret)) (.skip)))
   (.seq (.rg [⟨(some 8), none, .fad 0 (.t 2)⟩,
    ⟨(some 9), none, .ld false 1 (.t 8)⟩,
    ⟨(some 10), none, .mov (.t 1)⟩,
    ⟨(some 11), none, .iad 1 (.t 9) (.t 10)⟩,
    ⟨(some 12), none, .ld false 1 (.t 11)⟩,
    ⟨(some 4), none, .mov (.t 12)⟩,
    ⟨(some 5), none, .mov (.c (.bool true))⟩] (some [4, 5]))
   (.ret)))
def F_dom_at : F := ⟨i_dom_at, [(4, none), (5, none)], false⟩
/-- stratagem/bits.Least -/
def i_bits_Least : IR := .seq (.rg [⟨(some 2), none, .mov (.c (.int .i64 0))⟩] (some [0]))
   (.seq (.seq (.rg [⟨(some 3), none, .mov (.t 0)⟩,
    ⟨(some 4), none, .bin .eql (.t 3) (.c (.int .u64 0))⟩] (some [0, 4]))
   (.cond (.t 4) (.seq (.rg [⟨(some 2), none, .mov (.c (.int .i64 (-1)))⟩] (some [2]))
   (.ret)) (.skip)))
   (.seq (.rg [⟨(some 5), none, .mov (.t 0)⟩,
    ⟨(some 6), none, .call n_math_bits_TrailingZeros64 [(.t 5)]⟩,
    ⟨(some 2), none, .mov (.t 6)⟩] (some [2]))
   (.ret)))
def F_bits_Least : F := ⟨i_bits_Least, [(2, none)], false⟩
/-- stratagem/bits.Greatest -/
def i_bits_Greatest : IR := .seq (.rg [⟨(some 2), none, .mov (.c (.int .i64 0))⟩] (some [0]))
   (.seq (.rg [⟨(some 3), none, .mov (.t 0)⟩,
    ⟨(some 4), none, .call n_math_bits_LeadingZeros64 [(.t 3)]⟩,
    ⟨(some 5), none, .bin .sub (.c (.int .i64 63)) (.t 4)⟩,
    ⟨(some 2), none, .mov (.t 5)⟩] (some [2]))
   (.ret))
def F_bits_Greatest : F := ⟨i_bits_Greatest, [(2, none)], false⟩
/-- stratagem/dom.asked[int] -/
def i_dom_asked_int : IR := .seq (.rg [⟨(some 2), none, .box (.t 0)⟩,
    ⟨(some 4), none, .mov (.c (.int .i64 0))⟩] (some [1, 2]))
   (.seq (.rg [⟨(some 5), none, .mov (.c (.int .i64 0))⟩] (some [1, 2, 5]))
   (.seq (.seq (.rg [⟨(some 6), none, .ld true 2 (.t 2)⟩,
    ⟨(some 7), none, .call n_dom_May [(.t 6)]⟩,
    ⟨(some 8), none, .un .not (.t 7)⟩] (some [1, 2, 5, 8]))
   (.cond (.t 8) (.seq (.rg [⟨(some 9), none, .mov (.t 5)⟩,
    ⟨(some 4), none, .mov (.t 9)⟩] (some [4]))
   (.ret)) (.skip)))
   (.seq (.rg [⟨(some 10), none, .mov (.t 1)⟩,
    ⟨(some 11), none, .ld true 2 (.t 2)⟩,
    ⟨(some 12), none, .callv (.t 10) [(.t 11)]⟩,
    ⟨(some 4), none, .mov (.t 12)⟩] (some [4]))
   (.ret))))
def F_dom_asked_int : F := ⟨i_dom_asked_int, [(4, none)], false⟩
/-- stratagem/dom.Size$1 -/
def i_dom_Size_1 : IR := .seq (.rg [⟨(some 1), none, .box (.t 0)⟩,
    ⟨(some 2), none, .mov (.c (.int .i64 0))⟩] (some [1]))
   (.seq (.rg [⟨(some 3), none, .fad 1 (.t 1)⟩,
    ⟨(some 4), none, .ld false 1 (.t 3)⟩,
    ⟨(some 5), none, .call n_bits_Count [(.t 4)]⟩,
    ⟨(some 2), none, .mov (.t 5)⟩] (some [2]))
   (.ret))
def F_dom_Size_1 : F := ⟨i_dom_Size_1, [(2, none)], false⟩
/-- stratagem/bits.Count -/
def i_bits_Count : IR := .seq (.rg [⟨(some 2), none, .mov (.c (.int .i64 0))⟩] (some [0]))
   (.seq (.rg [⟨(some 3), none, .mov (.t 0)⟩,
    ⟨(some 4), none, .call n_math_bits_OnesCount64 [(.t 3)]⟩,
    ⟨(some 2), none, .mov (.t 4)⟩] (some [2]))
   (.ret))
def F_bits_Count : F := ⟨i_bits_Count, [(2, none)], false⟩
/-- stratagem/dom.asked[[]int] -/
def i_dom_asked_sint : IR := .seq (.rg [⟨(some 2), none, .box (.t 0)⟩,
    ⟨(some 4), none, .mov (.c (.nsl 1))⟩] (some [1, 2]))
   (.seq (.rg [⟨(some 5), none, .mov (.c (.nsl 1))⟩] (some [1, 2, 5]))
   (.seq (.seq (.rg [⟨(some 6), none, .ld true 2 (.t 2)⟩,
    ⟨(some 7), none, .call n_dom_May [(.t 6)]⟩,
    ⟨(some 8), none, .un .not (.t 7)⟩] (some [1, 2, 5, 8]))
   (.cond (.t 8) (.seq (.rg [⟨(some 9), none, .mov (.t 5)⟩,
    ⟨(some 4), none, .mov (.t 9)⟩] (some [4]))
   (.ret)) (.skip)))
   (.seq (.rg [⟨(some 10), none, .mov (.t 1)⟩,
    ⟨(some 11), none, .ld true 2 (.t 2)⟩,
    ⟨(some 12), none, .callv (.t 10) [(.t 11)]⟩,
    ⟨(some 4), none, .mov (.t 12)⟩] (some [4]))
   (.ret))))
def F_dom_asked_sint : F := ⟨i_dom_asked_sint, [(4, none)], true⟩
/-- stratagem/dom.List$1 -/
def b_dom_List_1_0 : IR := .seq (.rg [⟨(some 11), none, .bin .lss (.t 10) (.t 9)⟩] (some [1, 3, 8, 9, 10, 11]))
   (.seq (.cond (.t 11) (.skip) (.ext 0))
   (.seq (.blk 1 (.seq (.rg [⟨(some 12), none, .iad 1 (.t 8) (.t 10)⟩,
    ⟨(some 13), none, .ld false 1 (.t 12)⟩,
    ⟨(some 5), none, .mov (.t 13)⟩] (some [1, 3, 5, 8, 9, 10]))
   (.rg [⟨(some 14), none, .mov (.t 3)⟩,
    ⟨(some 15), none, .fad 0 (.t 1)⟩,
    ⟨(some 16), none, .ld false 1 (.t 15)⟩,
    ⟨(some 17), none, .mov (.t 5)⟩,
    ⟨(some 18), none, .iad 1 (.t 16) (.t 17)⟩,
    ⟨(some 19), none, .ld false 1 (.t 18)⟩,
    ⟨(some 20), none, .bsf (.int .i64 0) 1 [(0, (.t 19))]⟩,
    ⟨(some 21), none, .app 1 8 (.t 14) (.t 20)⟩,
    ⟨(some 3), none, .mov (.t 21)⟩] (some [1, 3, 8, 9, 10]))))
   (.rg [⟨(some 22), none, .bin .add (.t 10) (.c (.int .i64 1))⟩,
    ⟨(some 10), none, .mov (.t 22)⟩] (some [1, 3, 8, 9, 10]))))
def i_dom_List_1_l0 : IR := .loop b_dom_List_1_0
theorem r_dom_List_1_0 {C : Cx} {Y : Yl} {fr : Fr} {h : List Ob} : evw C Y i_dom_List_1_l0 fr h = nxt (evw C Y b_dom_List_1_0 fr h) fun fr h => evw C Y i_dom_List_1_l0 fr h := w_loop
def i_dom_List_1 : IR := .seq (.rg [⟨(some 1), none, .box (.t 0)⟩,
    ⟨(some 2), none, .mov (.c (.nsl 1))⟩] (some [1]))
   (.seq (.rg [⟨(some 3), none, .mov (.c (.nsl 1))⟩] (some [1, 3]))
   (.seq (.seq (.rg [⟨(some 6), none, .fad 1 (.t 1)⟩,
    ⟨(some 7), none, .ld false 1 (.t 6)⟩,
    ⟨(some 8), none, .call n_bits_List [(.t 7)]⟩,
    ⟨(some 9), none, .len (.t 8)⟩,
    ⟨(some 10), none, .mov (.c (.int .i64 0))⟩] (some [1, 3, 8, 9, 10]))
   (.blk 0 (i_dom_List_1_l0)))
   (.seq (.rg [⟨(some 23), none, .mov (.t 3)⟩,
    ⟨(some 2), none, .mov (.t 23)⟩] (some [2]))
   (.ret))))
def F_dom_List_1 : F := ⟨i_dom_List_1, [(2, none)], true⟩
/-- stratagem/bits.List -/
def ra_bits_List_0 : IR := .rg [⟨(some 4), none, .mov (.t 7)⟩] (some [3, 4])
def rb_bits_List_0 : IR := .blk 1 (.rg [⟨(some 8), none, .ld false 1 (.t 3)⟩,
    ⟨(some 9), none, .mov (.t 4)⟩,
    ⟨(some 10), none, .bsf (.int .i64 0) 1 [(0, (.t 9))]⟩,
    ⟨(some 11), none, .app 1 8 (.t 8) (.t 10)⟩,
    ⟨none, none, .st 1 (.t 3) (.t 11)⟩] (some []))
def i_bits_List : IR := .seq (.rg [⟨(some 2), none, .mov (.c (.nsl 1))⟩] (some [0, 2]))
   (.seq (.rg [⟨(some 3), none, .new (.nsl 1)⟩] (some [0, 2, 3]))
   (.seq (.seq (.rg [⟨(some 5), none, .mov (.t 0)⟩,
    ⟨(some 6), none, .call n_bits_all [(.t 5)]⟩] (some [2, 3, 6]))
   (.blk 0 (.rf (.t 6) [7] ra_bits_List_0 rb_bits_List_0)))
   (.seq (.rg [⟨(some 12), none, .ld false 1 (.t 3)⟩,
    ⟨(some 2), none, .mov (.t 12)⟩] (some [2]))
   (.ret))))
def F_bits_List : F := ⟨i_bits_List, [(2, none)], false⟩
/-- slices.Contains[[]int,int] -/
def i_slices_Contains_sint_int : IR := .seq (.rg [⟨(some 4), none, .mov (.c (.bool false))⟩] (some [0, 1]))
   (.seq (.rg [⟨(some 5), none, .mov (.t 0)⟩,
    ⟨(some 6), none, .mov (.t 1)⟩,
    ⟨(some 7), none, .call n_slices_Index_sint_int [(.t 5), (.t 6)]⟩,
    ⟨(some 8), none, .bin .geq (.t 7) (.c (.int .i64 0))⟩,
    ⟨(some 4), none, .mov (.t 8)⟩] (some [4]))
   (.ret))
def F_slices_Contains_sint_int : F := ⟨i_slices_Contains_sint_int, [(4, none)], false⟩
/-- stratagem/spans.Of -/
def b_spans_Of_0 : IR := .seq (.rg [⟨(some 12), none, .bin .lss (.t 11) (.t 10)⟩] (some [4, 9, 10, 11, 12]))
   (.seq (.cond (.t 12) (.skip) (.ext 0))
   (.seq (.blk 1 (.seq (.rg [⟨(some 13), none, .iad 1 (.t 9) (.t 11)⟩,
    ⟨(some 14), none, .ld false 1 (.t 13)⟩,
    ⟨(some 6), none, .mov (.t 14)⟩] (some [4, 6, 9, 10, 11]))
   (.seq (.seq (.rg [⟨(some 15), none, .mov (.t 6)⟩,
    ⟨(some 16), none, .bin .lss (.t 15) (.c (.int .i64 (-1048576)))⟩,
    ⟨(some 17), none, .mov (.t 16)⟩,
    ⟨(some 18), (some (17, false)), .mov (.t 6)⟩,
    ⟨(some 19), (some (17, false)), .bin .gtr (.t 18) (.c (.int .i64 1048576))⟩,
    ⟨(some 20), none, .pick (.t 17) (.c (.bool true)) (.t 19)⟩] (some [4, 6, 9, 10, 11, 20]))
   (.cond (.t 20) (.seq (.rg [⟨(some 2), none, .mov (.c (.nsl 2))⟩,
    ⟨(some 3), none, .mov (.c (.int .i64 1))⟩] (some [2, 3]))
   (.ret)) (.skip)))
   (.rg [⟨(some 21), none, .mov (.t 4)⟩,
    ⟨(some 22), none, .mov (.t 6)⟩,
    ⟨(some 23), none, .mov (.t 6)⟩,
    ⟨(some 24), none, .bld [.int .i64 0, .int .i64 0] [(0, 1, (.t 22)), (1, 1, (.t 23))]⟩,
    ⟨(some 25), none, .call n_spans_put [(.t 21), (.t 24)]⟩,
    ⟨(some 4), none, .mov (.t 25)⟩] (some [4, 9, 10, 11])))))
   (.rg [⟨(some 26), none, .bin .add (.t 11) (.c (.int .i64 1))⟩,
    ⟨(some 11), none, .mov (.t 26)⟩] (some [4, 9, 10, 11]))))
def i_spans_Of_l0 : IR := .loop b_spans_Of_0
theorem r_spans_Of_0 {C : Cx} {Y : Yl} {fr : Fr} {h : List Ob} : evw C Y i_spans_Of_l0 fr h = nxt (evw C Y b_spans_Of_0 fr h) fun fr h => evw C Y i_spans_Of_l0 fr h := w_loop
def i_spans_Of : IR := .seq (.rg [⟨(some 2), none, .mov (.c (.nsl 2))⟩,
    ⟨(some 3), none, .mov (.c (.int .i64 0))⟩] (some [0]))
   (.seq (.rg [⟨(some 4), none, .mov (.c (.nsl 2))⟩] (some [0, 4]))
   (.seq (.seq (.rg [⟨(some 7), none, .mov (.t 0)⟩,
    ⟨(some 8), none, .call n_slices_Values_sint_int [(.t 7)]⟩,
    ⟨(some 9), none, .call n_slices_Sorted_int [(.t 8)]⟩,
    ⟨(some 10), none, .len (.t 9)⟩,
    ⟨(some 11), none, .mov (.c (.int .i64 0))⟩] (some [4, 9, 10, 11]))
   (.blk 0 (i_spans_Of_l0)))
   (.seq (.rg [⟨(some 27), none, .mov (.t 4)⟩,
    ⟨(some 2), none, .mov (.t 27)⟩,
    ⟨(some 3), none, .mov (.c (.int .i64 0))⟩] (some [2, 3]))
   (.ret))))
def F_spans_Of : F := ⟨i_spans_Of, [(2, none), (3, none)], true⟩
/-- stratagem/dom.kept -/
def i_dom_kept : IR := .seq (.rg [⟨(some 2), none, .box (.t 0)⟩,
    ⟨(some 3), none, .box (.t 1)⟩,
    ⟨(some 4), none, .new (.agg [.nsl 1, .int .u64 0])⟩] (some [2, 3, 4]))
   (.seq (.rg [⟨(some 5), none, .ld true 2 (.t 2)⟩,
    ⟨(some 6), none, .mkf (.func n_dom_kept_1) [] [(.t 3)]⟩,
    ⟨(some 7), none, .call n_dom_asked_dom_Dom [(.t 5), (.t 6)]⟩,
    ⟨none, none, .st 2 (.t 4) (.t 7)⟩] (some [4]))
   (.ret))
def F_dom_kept : F := ⟨i_dom_kept, [(4, some (true, 2))], true⟩
/-- stratagem/dom.Only$1 -/
def i_dom_Only_1 : IR := .seq (.rg [⟨(some 3), none, .mov (.c (.bool false))⟩] (some [0, 1]))
   (.seq (.rg [⟨(some 4), none, .mov (.t 0)⟩,
    ⟨(some 5), none, .ld false 1 (.t 1)⟩,
    ⟨(some 6), none, .bin .eql (.t 4) (.t 5)⟩,
    ⟨(some 3), none, .mov (.t 6)⟩] (some [3]))
   (.ret))
def F_dom_Only_1 : F := ⟨i_dom_Only_1, [(3, none)], false⟩
/-- stratagem/dom.Less$1 -/
def i_dom_Less_1 : IR := .seq (.rg [⟨(some 3), none, .mov (.c (.bool false))⟩] (some [0, 1]))
   (.seq (.rg [⟨(some 4), none, .mov (.t 0)⟩,
    ⟨(some 5), none, .ld false 1 (.t 1)⟩,
    ⟨(some 6), none, .bin .neq (.t 4) (.t 5)⟩,
    ⟨(some 3), none, .mov (.t 6)⟩] (some [3]))
   (.ret))
def F_dom_Less_1 : F := ⟨i_dom_Less_1, [(3, none)], false⟩
/-- stratagem/dom.Between$1 -/
def i_dom_Between_1 : IR := .seq (.rg [⟨(some 4), none, .mov (.c (.bool false))⟩] (some [0, 1, 2]))
   (.seq (.rg [⟨(some 5), none, .mov (.t 0)⟩,
    ⟨(some 6), none, .ld false 1 (.t 1)⟩,
    ⟨(some 7), none, .bin .geq (.t 5) (.t 6)⟩,
    ⟨(some 8), none, .mov (.t 7)⟩,
    ⟨(some 9), (some (8, true)), .mov (.t 0)⟩,
    ⟨(some 10), (some (8, true)), .ld false 1 (.t 2)⟩,
    ⟨(some 11), (some (8, true)), .bin .leq (.t 9) (.t 10)⟩,
    ⟨(some 12), none, .pick (.t 8) (.t 11) (.c (.bool false))⟩,
    ⟨(some 4), none, .mov (.t 12)⟩] (some [4]))
   (.ret))
def F_dom_Between_1 : F := ⟨i_dom_Between_1, [(4, none)], false⟩
/-- slices.Equal[[]int,int] -/
def b_slices_Equal_sint_int_0 : IR := .seq (.rg [⟨(some 14), none, .bin .lss (.t 13) (.t 12)⟩] (some [0, 1, 12, 13, 14]))
   (.seq (.cond (.t 14) (.skip) (.ext 0))
   (.seq (.blk 1 (.seq (.rg [⟨(some 15), none, .mov (.t 13)⟩,
    ⟨(some 5), none, .mov (.t 15)⟩] (some [0, 1, 5, 12, 13]))
   (.seq (.dq [(⟨(some 16), none, .mov (.t 0)⟩, []),
    (⟨(some 17), none, .mov (.t 5)⟩, []),
    (⟨(some 18), none, .iad 1 (.t 16) (.t 17)⟩, [0, 1]),
    (⟨(some 19), none, .ld false 1 (.t 18)⟩, [0, 1, 2]),
    (⟨(some 20), none, .mov (.t 1)⟩, []),
    (⟨(some 21), none, .mov (.t 5)⟩, []),
    (⟨(some 22), none, .iad 1 (.t 20) (.t 21)⟩, [4, 5]),
    (⟨(some 23), none, .ld false 1 (.t 22)⟩, [4, 5, 6]),
    (⟨(some 24), none, .bin .neq (.t 19) (.t 23)⟩, [0, 1, 2, 3, 4, 5, 6, 7])] (some [0, 1, 12, 13, 24]))
   (.cond (.t 24) (.seq (.rg [⟨(some 4), none, .mov (.c (.bool false))⟩] (some [4]))
   (.ret)) (.skip)))))
   (.rg [⟨(some 25), none, .bin .add (.t 13) (.c (.int .i64 1))⟩,
    ⟨(some 13), none, .mov (.t 25)⟩] (some [0, 1, 12, 13]))))
def i_slices_Equal_sint_int_l0 : IR := .loop b_slices_Equal_sint_int_0
theorem r_slices_Equal_sint_int_0 {C : Cx} {Y : Yl} {fr : Fr} {h : List Ob} : evw C Y i_slices_Equal_sint_int_l0 fr h = nxt (evw C Y b_slices_Equal_sint_int_0 fr h) fun fr h => evw C Y i_slices_Equal_sint_int_l0 fr h := w_loop
def i_slices_Equal_sint_int : IR := .seq (.rg [⟨(some 4), none, .mov (.c (.bool false))⟩] (some [0, 1]))
   (.seq (.seq (.rg [⟨(some 6), none, .mov (.t 0)⟩,
    ⟨(some 7), none, .len (.t 6)⟩,
    ⟨(some 8), none, .mov (.t 1)⟩,
    ⟨(some 9), none, .len (.t 8)⟩,
    ⟨(some 10), none, .bin .neq (.t 7) (.t 9)⟩] (some [0, 1, 10]))
   (.cond (.t 10) (.seq (.rg [⟨(some 4), none, .mov (.c (.bool false))⟩] (some [4]))
   (.ret)) (.skip)))
   (.seq (.seq (.rg [⟨(some 11), none, .mov (.t 0)⟩,
    ⟨(some 12), none, .len (.t 11)⟩,
    ⟨(some 13), none, .mov (.c (.int .i64 0))⟩] (some [0, 1, 12, 13]))
   (.blk 0 (i_slices_Equal_sint_int_l0)))
   (.seq (.rg [⟨(some 4), none, .mov (.c (.bool true))⟩] (some [4]))
   (.ret))))
def F_slices_Equal_sint_int : F := ⟨i_slices_Equal_sint_int, [(4, none)], false⟩
/-- stratagem/spans.Right -/
def b_spans_Right_0 : IR := .seq (.rg [⟨(some 8), none, .bin .lss (.t 7) (.t 6)⟩] (some [0, 5, 6, 7, 8]))
   (.seq (.cond (.t 8) (.skip) (.ext 0))
   (.seq (.blk 1 (.seq (.rg [⟨(some 9), none, .mov (.t 7)⟩,
    ⟨(some 10), none, .iad 2 (.t 5) (.t 7)⟩,
    ⟨(some 11), none, .ld true 2 (.t 10)⟩,
    ⟨(some 4), none, .new (.agg [.int .i64 0, .int .i64 0])⟩,
    ⟨(some 3), none, .mov (.t 9)⟩,
    ⟨none, none, .st 2 (.t 4) (.t 11)⟩] (some [0, 3, 4, 5, 6, 7]))
   (.seq (.dq [(⟨(some 12), none, .fad 0 (.t 4)⟩, []),
    (⟨(some 13), none, .ld false 1 (.t 12)⟩, [0]),
    (⟨(some 14), none, .fad 1 (.t 4)⟩, []),
    (⟨(some 15), none, .ld false 1 (.t 14)⟩, [2]),
    (⟨(some 16), none, .bin .gtr (.t 13) (.t 15)⟩, [0, 1, 2, 3]),
    (⟨(some 17), none, .mov (.t 16)⟩, [0, 1, 2, 3, 4]),
    (⟨(some 18), (some (17, false)), .fad 0 (.t 4)⟩, [0, 1, 2, 3, 4, 5]),
    (⟨(some 19), (some (17, false)), .ld false 1 (.t 18)⟩, [0, 1, 2, 3, 4, 5, 6]),
    (⟨(some 20), (some (17, false)), .bin .lss (.t 19) (.c (.int .i64 (-1048576)))⟩, [0, 1, 2, 3, 4, 5, 6, 7]),
    (⟨(some 21), none, .pick (.t 17) (.c (.bool true)) (.t 20)⟩, [0, 1, 2, 3, 4, 5, 6, 7, 8]),
    (⟨(some 22), none, .mov (.t 21)⟩, [0, 1, 2, 3, 4, 5, 6, 7, 8, 9]),
    (⟨(some 23), (some (22, false)), .fad 1 (.t 4)⟩, [0, 1, 2, 3, 4, 5, 6, 7, 8, 9, 10]),
    (⟨(some 24), (some (22, false)), .ld false 1 (.t 23)⟩, [0, 1, 2, 3, 4, 5, 6, 7, 8, 9, 10, 11]),
    (⟨(some 25), (some (22, false)), .bin .gtr (.t 24) (.c (.int .i64 1048576))⟩, [0, 1, 2, 3, 4, 5, 6, 7, 8, 9, 10, 11, 12]),
    (⟨(some 26), none, .pick (.t 22) (.c (.bool true)) (.t 25)⟩, [0, 1, 2, 3, 4, 5, 6, 7, 8, 9, 10, 11, 12, 13]),
    (⟨(some 27), none, .mov (.t 26)⟩, [0, 1, 2, 3, 4, 5, 6, 7, 8, 9, 10, 11, 12, 13, 14]),
    (⟨(some 28), (some (27, false)), .mov (.t 3)⟩, [0, 1, 2, 3, 4, 5, 6, 7, 8, 9, 10, 11, 12, 13, 14, 15]),
    (⟨(some 29), (some (27, false)), .bin .gtr (.t 28) (.c (.int .i64 0))⟩, [0, 1, 2, 3, 4, 5, 6, 7, 8, 9, 10, 11, 12, 13, 14, 15, 16]),
    (⟨(some 30), (some (27, false)), .mov (.t 29)⟩, [0, 1, 2, 3, 4, 5, 6, 7, 8, 9, 10, 11, 12, 13, 14, 15, 16, 17]),
    (⟨(some 31), (some (30, true)), .fad 0 (.t 4)⟩, [0, 1, 2, 3, 4, 5, 6, 7, 8, 9, 10, 11, 12, 13, 14, 15, 16, 17, 18]),
    (⟨(some 32), (some (30, true)), .ld false 1 (.t 31)⟩, [0, 1, 2, 3, 4, 5, 6, 7, 8, 9, 10, 11, 12, 13, 14, 15, 16, 17, 18, 19]),
    (⟨(some 33), (some (30, true)), .mov (.t 0)⟩, [0, 1, 2, 3, 4, 5, 6, 7, 8, 9, 10, 11, 12, 13, 14, 15, 16, 17, 18]),
    (⟨(some 34), (some (30, true)), .mov (.t 3)⟩, [0, 1, 2, 3, 4, 5, 6, 7, 8, 9, 10, 11, 12, 13, 14, 15, 16, 17, 18]),
    (⟨(some 35), (some (30, true)), .bin .sub (.t 34) (.c (.int .i64 1))⟩, [0, 1, 2, 3, 4, 5, 6, 7, 8, 9, 10, 11, 12, 13, 14, 15, 16, 17, 18, 22]),
    (⟨(some 36), (some (30, true)), .iad 2 (.t 33) (.t 35)⟩, [0, 1, 2, 3, 4, 5, 6, 7, 8, 9, 10, 11, 12, 13, 14, 15, 16, 17, 18, 21, 22, 23]),
    (⟨(some 37), (some (30, true)), .fad 1 (.t 36)⟩, [0, 1, 2, 3, 4, 5, 6, 7, 8, 9, 10, 11, 12, 13, 14, 15, 16, 17, 18, 21, 22, 23, 24]),
    (⟨(some 38), (some (30, true)), .ld false 1 (.t 37)⟩, [0, 1, 2, 3, 4, 5, 6, 7, 8, 9, 10, 11, 12, 13, 14, 15, 16, 17, 18, 21, 22, 23, 24, 25]),
    (⟨(some 39), (some (30, true)), .bin .add (.t 38) (.c (.int .i64 1))⟩, [0, 1, 2, 3, 4, 5, 6, 7, 8, 9, 10, 11, 12, 13, 14, 15, 16, 17, 18, 21, 22, 23, 24, 25, 26]),
    (⟨(some 40), (some (30, true)), .bin .leq (.t 32) (.t 39)⟩, [0, 1, 2, 3, 4, 5, 6, 7, 8, 9, 10, 11, 12, 13, 14, 15, 16, 17, 18, 19, 20, 21, 22, 23, 24, 25, 26, 27]),
    (⟨(some 41), (some (27, false)), .pick (.t 30) (.t 40) (.c (.bool false))⟩, [0, 1, 2, 3, 4, 5, 6, 7, 8, 9, 10, 11, 12, 13, 14, 15, 16, 17, 18, 19, 20, 21, 22, 23, 24, 25, 26, 27, 28]),
    (⟨(some 42), none, .pick (.t 27) (.c (.bool true)) (.t 41)⟩, [0, 1, 2, 3, 4, 5, 6, 7, 8, 9, 10, 11, 12, 13, 14, 15, 16, 17, 18, 19, 20, 21, 22, 23, 24, 25, 26, 27, 28, 29])] (some [0, 5, 6, 7, 42]))
   (.cond (.t 42) (.seq (.rg [⟨(some 2), none, .mov (.c (.bool false))⟩] (some [2]))
   (.ret)) (.skip)))))
   (.rg [⟨(some 43), none, .bin .add (.t 7) (.c (.int .i64 1))⟩,
    ⟨(some 7), none, .mov (.t 43)⟩] (some [0, 5, 6, 7]))))
def i_spans_Right_l0 : IR := .loop b_spans_Right_0
theorem r_spans_Right_0 {C : Cx} {Y : Yl} {fr : Fr} {h : List Ob} : evw C Y i_spans_Right_l0 fr h = nxt (evw C Y b_spans_Right_0 fr h) fun fr h => evw C Y i_spans_Right_l0 fr h := w_loop
def i_spans_Right : IR := .seq (.rg [⟨(some 2), none, .mov (.c (.bool false))⟩] (some [0]))
   (.seq (.seq (.rg [⟨(some 5), none, .mov (.t 0)⟩,
    ⟨(some 6), none, .len (.t 5)⟩,
    ⟨(some 7), none, .mov (.c (.int .i64 0))⟩] (some [0, 5, 6, 7]))
   (.blk 0 (i_spans_Right_l0)))
   (.seq (.rg [⟨(some 2), none, .mov (.c (.bool true))⟩] (some [2]))
   (.ret)))
def F_spans_Right : F := ⟨i_spans_Right, [(2, none)], false⟩
/-- math/bits.LeadingZeros64 -/
def i_math_bits_LeadingZeros64 : IR := .seq (.rg [⟨(some 2), none, .mov (.c (.int .i64 0))⟩] (some [0]))
   (.seq (.rg [⟨(some 3), none, .mov (.t 0)⟩,
    ⟨(some 4), none, .call n_math_bits_Len64 [(.t 3)]⟩,
    ⟨(some 5), none, .bin .sub (.c (.int .i64 64)) (.t 4)⟩,
    ⟨(some 2), none, .mov (.t 5)⟩] (some [2]))
   (.ret))
def F_math_bits_LeadingZeros64 : F := ⟨i_math_bits_LeadingZeros64, [(2, none)], false⟩
/-- math/bits.OnesCount64 -/
def i_math_bits_OnesCount64 : IR := .seq (.rg [⟨(some 2), none, .mov (.c (.int .i64 0))⟩] (some [0]))
   (.seq (.rg [⟨(some 3), none, .mov (.t 0)⟩,
    ⟨(some 4), none, .bin .shr (.t 3) (.c (.int .u64 1))⟩,
    ⟨(some 5), none, .bin .and (.t 4) (.c (.int .u64 6148914691236517205))⟩,
    ⟨(some 6), none, .mov (.t 0)⟩,
    ⟨(some 7), none, .bin .and (.t 6) (.c (.int .u64 6148914691236517205))⟩,
    ⟨(some 8), none, .bin .add (.t 5) (.t 7)⟩,
    ⟨(some 0), none, .mov (.t 8)⟩] (some [0]))
   (.seq (.rg [⟨(some 9), none, .mov (.t 0)⟩,
    ⟨(some 10), none, .bin .shr (.t 9) (.c (.int .u64 2))⟩,
    ⟨(some 11), none, .bin .and (.t 10) (.c (.int .u64 3689348814741910323))⟩,
    ⟨(some 12), none, .mov (.t 0)⟩,
    ⟨(some 13), none, .bin .and (.t 12) (.c (.int .u64 3689348814741910323))⟩,
    ⟨(some 14), none, .bin .add (.t 11) (.t 13)⟩,
    ⟨(some 0), none, .mov (.t 14)⟩] (some [0]))
   (.seq (.rg [⟨(some 15), none, .mov (.t 0)⟩,
    ⟨(some 16), none, .bin .shr (.t 15) (.c (.int .u64 4))⟩,
    ⟨(some 17), none, .mov (.t 0)⟩,
    ⟨(some 18), none, .bin .add (.t 16) (.t 17)⟩,
    ⟨(some 19), none, .bin .and (.t 18) (.c (.int .u64 1085102592571150095))⟩,
    ⟨(some 0), none, .mov (.t 19)⟩] (some [0]))
   (.seq (.rg [⟨(some 20), none, .mov (.t 0)⟩,
    ⟨(some 21), none, .mov (.t 0)⟩,
    ⟨(some 22), none, .bin .shr (.t 21) (.c (.int .u64 8))⟩,
    ⟨(some 23), none, .bin .add (.t 20) (.t 22)⟩,
    ⟨(some 0), none, .mov (.t 23)⟩] (some [0]))
   (.seq (.rg [⟨(some 24), none, .mov (.t 0)⟩,
    ⟨(some 25), none, .mov (.t 0)⟩,
    ⟨(some 26), none, .bin .shr (.t 25) (.c (.int .u64 16))⟩,
    ⟨(some 27), none, .bin .add (.t 24) (.t 26)⟩,
    ⟨(some 0), none, .mov (.t 27)⟩] (some [0]))
   (.seq (.rg [⟨(some 28), none, .mov (.t 0)⟩,
    ⟨(some 29), none, .mov (.t 0)⟩,
    ⟨(some 30), none, .bin .shr (.t 29) (.c (.int .u64 32))⟩,
    ⟨(some 31), none, .bin .add (.t 28) (.t 30)⟩,
    ⟨(some 0), none, .mov (.t 31)⟩] (some [0]))
   (.seq (.rg [⟨(some 32), none, .mov (.t 0)⟩,
    ⟨(some 33), none, .conv .i64 (.t 32)⟩,
    ⟨(some 34), none, .bin .and (.t 33) (.c (.int .i64 127))⟩,
    ⟨(some 2), none, .mov (.t 34)⟩] (some [2]))
   (.ret))))))))
def F_math_bits_OnesCount64 : F := ⟨i_math_bits_OnesCount64, [(2, none)], false⟩
/-- stratagem/bits.all -/
def i_bits_all : IR := .seq (.rg [⟨(some 1), none, .box (.t 0)⟩,
    ⟨(some 2), none, .mov (.c (.nilf))⟩] (some [1]))
   (.seq (.rg [⟨(some 3), none, .mkf (.func n_bits_all_1) [] [(.t 1)]⟩,
    ⟨(some 2), none, .mov (.t 3)⟩] (some [2]))
   (.ret))
def F_bits_all : F := ⟨i_bits_all, [(2, none)], true⟩
/-- slices.Index[[]int,int] -/
def b_slices_Index_sint_int_0 : IR := .seq (.rg [⟨(some 9), none, .bin .lss (.t 8) (.t 7)⟩] (some [0, 1, 7, 8, 9]))
   (.seq (.cond (.t 9) (.skip) (.ext 0))
   (.seq (.blk 1 (.seq (.rg [⟨(some 10), none, .mov (.t 8)⟩,
    ⟨(some 5), none, .mov (.t 10)⟩] (some [0, 1, 5, 7, 8]))
   (.seq (.rg [⟨(some 11), none, .mov (.t 1)⟩,
    ⟨(some 12), none, .mov (.t 0)⟩,
    ⟨(some 13), none, .mov (.t 5)⟩,
    ⟨(some 14), none, .iad 1 (.t 12) (.t 13)⟩,
    ⟨(some 15), none, .ld false 1 (.t 14)⟩,
    ⟨(some 16), none, .bin .eql (.t 11) (.t 15)⟩] (some [0, 1, 5, 7, 8, 16]))
   (.cond (.t 16) (.seq (.rg [⟨(some 17), none, .mov (.t 5)⟩,
    ⟨(some 4), none, .mov (.t 17)⟩] (some [4]))
   (.ret)) (.skip)))))
   (.rg [⟨(some 18), none, .bin .add (.t 8) (.c (.int .i64 1))⟩,
    ⟨(some 8), none, .mov (.t 18)⟩] (some [0, 1, 7, 8]))))
def i_slices_Index_sint_int_l0 : IR := .loop b_slices_Index_sint_int_0
theorem r_slices_Index_sint_int_0 {C : Cx} {Y : Yl} {fr : Fr} {h : List Ob} : evw C Y i_slices_Index_sint_int_l0 fr h = nxt (evw C Y b_slices_Index_sint_int_0 fr h) fun fr h => evw C Y i_slices_Index_sint_int_l0 fr h := w_loop
def i_slices_Index_sint_int : IR := .seq (.rg [⟨(some 4), none, .mov (.c (.int .i64 0))⟩] (some [0, 1]))
   (.seq (.seq (.rg [⟨(some 6), none, .mov (.t 0)⟩,
    ⟨(some 7), none, .len (.t 6)⟩,
    ⟨(some 8), none, .mov (.c (.int .i64 0))⟩] (some [0, 1, 7, 8]))
   (.blk 0 (i_slices_Index_sint_int_l0)))
   (.seq (.rg [⟨(some 4), none, .mov (.c (.int .i64 (-1)))⟩] (some [4]))
   (.ret)))
def F_slices_Index_sint_int : F := ⟨i_slices_Index_sint_int, [(4, none)], false⟩
/-- slices.Sorted[int] -/
def i_slices_Sorted_int : IR := .seq (.rg [⟨(some 2), none, .mov (.c (.nsl 1))⟩] (some [0]))
   (.seq (.rg [⟨(some 4), none, .mov (.t 0)⟩,
    ⟨(some 5), none, .call n_slices_Collect_int [(.t 4)]⟩,
    ⟨(some 3), none, .mov (.t 5)⟩] (some [3]))
   (.seq (.rg [⟨(some 6), none, .mov (.t 3)⟩,
    ⟨(some 7), none, .call n_slices_Sort_sint_int [(.t 6)]⟩] (some [3]))
   (.seq (.rg [⟨(some 8), none, .mov (.t 3)⟩,
    ⟨(some 2), none, .mov (.t 8)⟩] (some [2]))
   (.ret))))
def F_slices_Sorted_int : F := ⟨i_slices_Sorted_int, [(2, none)], true⟩
/-- slices.Values[[]int,int] -/
def i_slices_Values_sint_int : IR := .seq (.rg [⟨(some 1), none, .box (.t 0)⟩,
    ⟨(some 2), none, .mov (.c (.nilf))⟩] (some [1]))
   (.seq (.rg [⟨(some 3), none, .mkf (.func n_slices_Values_sint_int_1) [] [(.t 1)]⟩,
    ⟨(some 2), none, .mov (.t 3)⟩] (some [2]))
   (.ret))
def F_slices_Values_sint_int : F := ⟨i_slices_Values_sint_int, [(2, none)], true⟩
/-- stratagem/spans.put -/
def i_spans_put : IR := .seq (.rg [⟨(some 3), none, .box (.t 1)⟩,
    ⟨(some 4), none, .mov (.c (.nsl 2))⟩] (some [0, 3]))
   (.seq (.seq (.rg [⟨(some 6), none, .mov (.t 0)⟩,
    ⟨(some 7), none, .len (.t 6)⟩,
    ⟨(some 5), none, .mov (.t 7)⟩] (some [0, 3, 5]))
   (.seq (.dq [(⟨(some 8), none, .mov (.t 5)⟩, []),
    (⟨(some 9), none, .bin .gtr (.t 8) (.c (.int .i64 0))⟩, [0]),
    (⟨(some 10), none, .mov (.t 9)⟩, [0, 1]),
    (⟨(some 11), (some (10, true)), .fad 0 (.t 3)⟩, [0, 1, 2]),
    (⟨(some 12), (some (10, true)), .ld false 1 (.t 11)⟩, [0, 1, 2, 3]),
    (⟨(some 13), (some (10, true)), .mov (.t 0)⟩, [0, 1, 2]),
    (⟨(some 14), (some (10, true)), .mov (.t 5)⟩, [0, 1, 2]),
    (⟨(some 15), (some (10, true)), .bin .sub (.t 14) (.c (.int .i64 1))⟩, [0, 1, 2, 6]),
    (⟨(some 16), (some (10, true)), .iad 2 (.t 13) (.t 15)⟩, [0, 1, 2, 5, 6, 7]),
    (⟨(some 17), (some (10, true)), .fad 1 (.t 16)⟩, [0, 1, 2, 5, 6, 7, 8]),
    (⟨(some 18), (some (10, true)), .ld false 1 (.t 17)⟩, [0, 1, 2, 5, 6, 7, 8, 9]),
    (⟨(some 19), (some (10, true)), .bin .add (.t 18) (.c (.int .i64 1))⟩, [0, 1, 2, 5, 6, 7, 8, 9, 10]),
    (⟨(some 20), (some (10, true)), .bin .leq (.t 12) (.t 19)⟩, [0, 1, 2, 3, 4, 5, 6, 7, 8, 9, 10, 11]),
    (⟨(some 21), none, .pick (.t 10) (.t 20) (.c (.bool false))⟩, [0, 1, 2, 3, 4, 5, 6, 7, 8, 9, 10, 11, 12])] (some [0, 3, 5, 21]))
   (.cond (.t 21) (.seq (.dq [(⟨(some 22), none, .mov (.t 0)⟩, []),
    (⟨(some 23), none, .mov (.t 5)⟩, []),
    (⟨(some 24), none, .bin .sub (.t 23) (.c (.int .i64 1))⟩, [1]),
    (⟨(some 25), none, .mov (.t 0)⟩, []),
    (⟨(some 26), none, .mov (.t 5)⟩, []),
    (⟨(some 27), none, .bin .sub (.t 26) (.c (.int .i64 1))⟩, [4]),
    (⟨(some 28), none, .iad 2 (.t 25) (.t 27)⟩, [3, 4, 5]),
    (⟨(some 29), none, .fad 1 (.t 28)⟩, [3, 4, 5, 6]),
    (⟨(some 30), none, .ld false 1 (.t 29)⟩, [3, 4, 5, 6, 7]),
    (⟨(some 31), none, .fad 1 (.t 3)⟩, []),
    (⟨(some 32), none, .ld false 1 (.t 31)⟩, [9]),
    (⟨(some 33), none, .mxn true [(.t 30), (.t 32)]⟩, [3, 4, 5, 6, 7, 8, 9, 10]),
    (⟨(some 34), none, .iad 2 (.t 22) (.t 24)⟩, [0, 1, 2, 3, 4, 5, 6, 7, 8, 9, 10, 11]),
    (⟨(some 35), none, .fad 1 (.t 34)⟩, [0, 1, 2, 3, 4, 5, 6, 7, 8, 9, 10, 11, 12]),
    (⟨none, none, .st 1 (.t 35) (.t 33)⟩, [0, 1, 2, 3, 4, 5, 6, 7, 8, 9, 10, 11, 12, 13])] (some [0]))
   (.seq (.rg [⟨(some 36), none, .mov (.t 0)⟩,
    ⟨(some 4), none, .mov (.t 36)⟩] (some [4]))
   (.ret))) (.skip))))
   (.seq (.rg [⟨(some 37), none, .mov (.t 0)⟩,
    ⟨(some 38), none, .ld true 2 (.t 3)⟩,
    ⟨(some 39), none, .bsf (.agg [.int .i64 0, .int .i64 0]) 1 [(0, (.t 38))]⟩,
    ⟨(some 40), none, .app 2 16 (.t 37) (.t 39)⟩,
    ⟨(some 4), none, .mov (.t 40)⟩] (some [4]))
   (.ret)))
def F_spans_put : F := ⟨i_spans_put, [(4, none)], true⟩
/-- stratagem/dom.asked[stratagem/dom.Dom] -/
def i_dom_asked_dom_Dom : IR := .seq (.rg [⟨(some 2), none, .box (.t 0)⟩,
    ⟨(some 4), none, .new (.agg [.nsl 1, .int .u64 0])⟩] (some [1, 2, 4]))
   (.seq (.rg [⟨(some 5), none, .new (.agg [.nsl 1, .int .u64 0])⟩] (some [1, 2, 4, 5]))
   (.seq (.seq (.rg [⟨(some 6), none, .ld true 2 (.t 2)⟩,
    ⟨(some 7), none, .call n_dom_May [(.t 6)]⟩,
    ⟨(some 8), none, .un .not (.t 7)⟩] (some [1, 2, 4, 5, 8]))
   (.cond (.t 8) (.seq (.rg [⟨(some 9), none, .ld true 2 (.t 5)⟩,
    ⟨none, none, .st 2 (.t 4) (.t 9)⟩] (some [4]))
   (.ret)) (.skip)))
   (.seq (.rg [⟨(some 10), none, .mov (.t 1)⟩,
    ⟨(some 11), none, .ld true 2 (.t 2)⟩,
    ⟨(some 12), none, .callv (.t 10) [(.t 11)]⟩,
    ⟨none, none, .st 2 (.t 4) (.t 12)⟩] (some [4]))
   (.ret))))
def F_dom_asked_dom_Dom : F := ⟨i_dom_asked_dom_Dom, [(4, some (true, 2))], true⟩
/-- stratagem/dom.kept$1 -/
def b_dom_kept_1_0 : IR := .seq (.rg [⟨(some 16), none, .bin .lss (.t 15) (.t 14)⟩] (some [1, 2, 3, 4, 13, 14, 15, 16]))
   (.seq (.cond (.t 16) (.skip) (.ext 0))
   (.seq (.blk 1 (.seq (.rg [⟨(some 17), none, .iad 1 (.t 13) (.t 15)⟩,
    ⟨(some 18), none, .ld false 1 (.t 17)⟩,
    ⟨(some 6), none, .mov (.t 18)⟩] (some [1, 2, 3, 4, 6, 13, 14, 15]))
   (.seq (.dq [(⟨(some 19), none, .ld false 1 (.t 1)⟩, []),
    (⟨(some 20), none, .fad 0 (.t 2)⟩, []),
    (⟨(some 21), none, .ld false 1 (.t 20)⟩, [1]),
    (⟨(some 22), none, .mov (.t 6)⟩, []),
    (⟨(some 23), none, .iad 1 (.t 21) (.t 22)⟩, [1, 2, 3]),
    (⟨(some 24), none, .ld false 1 (.t 23)⟩, [1, 2, 3, 4]),
    (⟨(some 25), none, .callv (.t 19) [(.t 24)]⟩, [0, 1, 2, 3, 4, 5])] (some [1, 2, 3, 4, 6, 13, 14, 15, 25]))
   (.cond (.t 25) (.dq [(⟨(some 26), none, .fad 1 (.t 4)⟩, []),
    (⟨(some 27), none, .ld false 1 (.t 26)⟩, [0]),
    (⟨(some 28), none, .mov (.t 6)⟩, []),
    (⟨(some 29), none, .bsf (.int .i64 0) 1 [(0, (.t 28))]⟩, [2]),
    (⟨(some 30), none, .call n_bits_Of [(.t 29)]⟩, [2, 3]),
    (⟨(some 31), none, .bin .or (.t 27) (.t 30)⟩, [0, 1, 2, 3, 4]),
    (⟨(some 32), none, .fad 1 (.t 4)⟩, [0, 1, 2, 3, 4, 5]),
    (⟨none, none, .st 1 (.t 32) (.t 31)⟩, [0, 1, 2, 3, 4, 5, 6])] (some [1, 2, 3, 4, 13, 14, 15])) (.skip)))))
   (.rg [⟨(some 33), none, .bin .add (.t 15) (.c (.int .i64 1))⟩,
    ⟨(some 15), none, .mov (.t 33)⟩] (some [1, 2, 3, 4, 13, 14, 15]))))
def i_dom_kept_1_l0 : IR := .loop b_dom_kept_1_0
theorem r_dom_kept_1_0 {C : Cx} {Y : Yl} {fr : Fr} {h : List Ob} : evw C Y i_dom_kept_1_l0 fr h = nxt (evw C Y b_dom_kept_1_0 fr h) fun fr h => evw C Y i_dom_kept_1_l0 fr h := w_loop
def i_dom_kept_1 : IR := .seq (.rg [⟨(some 2), none, .box (.t 0)⟩,
    ⟨(some 3), none, .new (.agg [.nsl 1, .int .u64 0])⟩] (some [1, 2, 3]))
   (.seq (.rg [⟨(some 7), none, .fad 0 (.t 2)⟩,
    ⟨(some 8), none, .ld false 1 (.t 7)⟩,
    ⟨(some 9), none, .call n_slices_Clone_sint_int [(.t 8)]⟩,
    ⟨(some 10), none, .bld [.nsl 1, .int .u64 0] [(0, 1, (.t 9))]⟩,
    ⟨(some 4), none, .new (.agg [.nsl 1, .int .u64 0])⟩,
    ⟨none, none, .st 2 (.t 4) (.t 10)⟩] (some [1, 2, 3, 4]))
   (.seq (.seq (.rg [⟨(some 11), none, .fad 1 (.t 2)⟩,
    ⟨(some 12), none, .ld false 1 (.t 11)⟩,
    ⟨(some 13), none, .call n_bits_List [(.t 12)]⟩,
    ⟨(some 14), none, .len (.t 13)⟩,
    ⟨(some 15), none, .mov (.c (.int .i64 0))⟩] (some [1, 2, 3, 4, 13, 14, 15]))
   (.blk 0 (i_dom_kept_1_l0)))
   (.seq (.rg [⟨(some 34), none, .ld true 2 (.t 4)⟩,
    ⟨none, none, .st 2 (.t 3) (.t 34)⟩] (some [3]))
   (.ret))))
def F_dom_kept_1 : F := ⟨i_dom_kept_1, [(3, some (true, 2))], true⟩
/-- stratagem/bits.Of -/
def b_bits_Of_0 : IR := .seq (.rg [⟨(some 9), none, .bin .lss (.t 8) (.t 7)⟩] (some [3, 6, 7, 8, 9]))
   (.seq (.cond (.t 9) (.skip) (.ext 0))
   (.seq (.blk 1 (.seq (.rg [⟨(some 10), none, .iad 1 (.t 6) (.t 8)⟩,
    ⟨(some 11), none, .ld false 1 (.t 10)⟩,
    ⟨(some 5), none, .mov (.t 11)⟩] (some [3, 5, 6, 7, 8]))
   (.seq (.rg [⟨(some 12), none, .mov (.t 5)⟩,
    ⟨(some 13), none, .bin .geq (.t 12) (.c (.int .i64 0))⟩,
    ⟨(some 14), none, .mov (.t 13)⟩,
    ⟨(some 15), (some (14, true)), .mov (.t 5)⟩,
    ⟨(some 16), (some (14, true)), .bin .lss (.t 15) (.c (.int .i64 64))⟩,
    ⟨(some 17), none, .pick (.t 14) (.t 16) (.c (.bool false))⟩] (some [3, 5, 6, 7, 8, 17]))
   (.cond (.t 17) (.rg [⟨(some 18), none, .mov (.t 3)⟩,
    ⟨(some 19), none, .mov (.t 5)⟩,
    ⟨(some 20), none, .bin .shl (.c (.int .u64 1)) (.t 19)⟩,
    ⟨(some 21), none, .bin .or (.t 18) (.t 20)⟩,
    ⟨(some 3), none, .mov (.t 21)⟩] (some [3, 6, 7, 8])) (.skip)))))
   (.rg [⟨(some 22), none, .bin .add (.t 8) (.c (.int .i64 1))⟩,
    ⟨(some 8), none, .mov (.t 22)⟩] (some [3, 6, 7, 8]))))
def i_bits_Of_l0 : IR := .loop b_bits_Of_0
theorem r_bits_Of_0 {C : Cx} {Y : Yl} {fr : Fr} {h : List Ob} : evw C Y i_bits_Of_l0 fr h = nxt (evw C Y b_bits_Of_0 fr h) fun fr h => evw C Y i_bits_Of_l0 fr h := w_loop
def i_bits_Of : IR := .seq (.rg [⟨(some 2), none, .mov (.c (.int .u64 0))⟩] (some [0]))
   (.seq (.rg [⟨(some 3), none, .mov (.c (.int .u64 0))⟩] (some [0, 3]))
   (.seq (.seq (.rg [⟨(some 6), none, .mov (.t 0)⟩,
    ⟨(some 7), none, .len (.t 6)⟩,
    ⟨(some 8), none, .mov (.c (.int .i64 0))⟩] (some [3, 6, 7, 8]))
   (.blk 0 (i_bits_Of_l0)))
   (.seq (.rg [⟨(some 23), none, .mov (.t 3)⟩,
    ⟨(some 2), none, .mov (.t 23)⟩] (some [2]))
   (.ret))))
def F_bits_Of : F := ⟨i_bits_Of, [(2, none)], false⟩
/-- stratagem/bits.all$1 -/
def b_bits_all_1_0 : IR := .seq (.seq (.rg [⟨(some 3), none, .ld false 1 (.t 1)⟩,
    ⟨(some 4), none, .bin .neq (.t 3) (.c (.int .u64 0))⟩] (some [0, 1, 4]))
   (.cond (.t 4) (.skip) (.ext 0)))
   (.seq (.blk 1 (.seq (.rg [⟨(some 9), none, .mov (.t 0)⟩,
    ⟨(some 10), none, .ld false 1 (.t 1)⟩,
    ⟨(some 11), none, .call n_bits_Least [(.t 10)]⟩,
    ⟨(some 12), none, .callv (.t 9) [(.t 11)]⟩,
    ⟨(some 13), none, .un .not (.t 12)⟩] (some [0, 1, 13]))
   (.cond (.t 13) (.ret) (.skip))))
   (.rg [⟨(some 5), none, .ld false 1 (.t 1)⟩,
    ⟨(some 6), none, .ld false 1 (.t 1)⟩,
    ⟨(some 7), none, .bin .sub (.t 6) (.c (.int .u64 1))⟩,
    ⟨(some 8), none, .bin .and (.t 5) (.t 7)⟩,
    ⟨none, none, .st 1 (.t 1) (.t 8)⟩] (some [0, 1])))
def i_bits_all_1_l0 : IR := .loop b_bits_all_1_0
theorem r_bits_all_1_0 {C : Cx} {Y : Yl} {fr : Fr} {h : List Ob} : evw C Y i_bits_all_1_l0 fr h = nxt (evw C Y b_bits_all_1_0 fr h) fun fr h => evw C Y i_bits_all_1_l0 fr h := w_loop
def i_bits_all_1 : IR := .blk 0 (i_bits_all_1_l0)
def F_bits_all_1 : F := ⟨i_bits_all_1, [], true⟩
/-- slices.Collect[int] -/
def i_slices_Collect_int : IR := .seq (.rg [⟨(some 2), none, .mov (.c (.nsl 1))⟩] (some [0]))
   (.seq (.rg [⟨(some 3), none, .mov (.t 0)⟩,
    ⟨(some 4), none, .call n_slices_AppendSeq_sint_int [(.c (.nsl 1)), (.t 3)]⟩,
    ⟨(some 2), none, .mov (.t 4)⟩] (some [2]))
   (.ret))
def F_slices_Collect_int : F := ⟨i_slices_Collect_int, [(2, none)], true⟩
/-- slices.Values[[]int,int]$1 -/
def b_slices_Values_sint_int_1_0 : IR := .seq (.rg [⟨(some 8), none, .bin .lss (.t 7) (.t 6)⟩] (some [0, 5, 6, 7, 8]))
   (.seq (.cond (.t 8) (.skip) (.ext 0))
   (.seq (.blk 1 (.seq (.rg [⟨(some 9), none, .iad 1 (.t 5) (.t 7)⟩,
    ⟨(some 10), none, .ld false 1 (.t 9)⟩,
    ⟨(some 4), none, .mov (.t 10)⟩] (some [0, 4, 5, 6, 7]))
   (.seq (.rg [⟨(some 11), none, .mov (.t 0)⟩,
    ⟨(some 12), none, .mov (.t 4)⟩,
    ⟨(some 13), none, .callv (.t 11) [(.t 12)]⟩,
    ⟨(some 14), none, .un .not (.t 13)⟩] (some [0, 5, 6, 7, 14]))
   (.cond (.t 14) (.ret) (.skip)))))
   (.rg [⟨(some 15), none, .bin .add (.t 7) (.c (.int .i64 1))⟩,
    ⟨(some 7), none, .mov (.t 15)⟩] (some [0, 5, 6, 7]))))
def i_slices_Values_sint_int_1_l0 : IR := .loop b_slices_Values_sint_int_1_0
theorem r_slices_Values_sint_int_1_0 {C : Cx} {Y : Yl} {fr : Fr} {h : List Ob} : evw C Y i_slices_Values_sint_int_1_l0 fr h = nxt (evw C Y b_slices_Values_sint_int_1_0 fr h) fun fr h => evw C Y i_slices_Values_sint_int_1_l0 fr h := w_loop
def i_slices_Values_sint_int_1 : IR := .seq (.rg [⟨(some 5), none, .ld false 1 (.t 1)⟩,
    ⟨(some 6), none, .len (.t 5)⟩,
    ⟨(some 7), none, .mov (.c (.int .i64 0))⟩] (some [0, 5, 6, 7]))
   (.blk 0 (i_slices_Values_sint_int_1_l0))
def F_slices_Values_sint_int_1 : F := ⟨i_slices_Values_sint_int_1, [], true⟩
/-- slices.AppendSeq[[]int,int] -/
def ra_slices_AppendSeq_sint_int_0 : IR := .rg [⟨(some 5), none, .mov (.t 7)⟩] (some [2, 5])
def rb_slices_AppendSeq_sint_int_0 : IR := .blk 1 (.rg [⟨(some 8), none, .ld false 1 (.t 2)⟩,
    ⟨(some 9), none, .mov (.t 5)⟩,
    ⟨(some 10), none, .bsf (.int .i64 0) 1 [(0, (.t 9))]⟩,
    ⟨(some 11), none, .app 1 8 (.t 8) (.t 10)⟩,
    ⟨none, none, .st 1 (.t 2) (.t 11)⟩] (some []))
def i_slices_AppendSeq_sint_int : IR := .seq (.rg [⟨(some 2), none, .box (.t 0)⟩,
    ⟨(some 4), none, .mov (.c (.nsl 1))⟩] (some [1, 2, 4]))
   (.seq (.seq (.rg [⟨(some 6), none, .mov (.t 1)⟩] (some [2, 4, 6]))
   (.blk 0 (.rf (.t 6) [7] ra_slices_AppendSeq_sint_int_0 rb_slices_AppendSeq_sint_int_0)))
   (.seq (.rg [⟨(some 12), none, .ld false 1 (.t 2)⟩,
    ⟨(some 4), none, .mov (.t 12)⟩] (some [4]))
   (.ret)))
def F_slices_AppendSeq_sint_int : F := ⟨i_slices_AppendSeq_sint_int, [(4, none)], true⟩
theorem ok_law04_DomOwn : mF Go.Proofs.Tryd.prog n_law04_DomOwn F_law04_DomOwn = true := by kernel_rfl
theorem ok_ref02_Same : mF Go.Proofs.Tryd.prog n_ref02_Same F_ref02_Same = true := by kernel_rfl
theorem ok_law04_awake : mF Go.Proofs.Tryd.prog n_law04_awake F_law04_awake = true := by kernel_rfl
theorem ok_dom_New : mF Go.Proofs.Tryd.prog n_dom_New F_dom_New = true := by kernel_rfl
theorem ok_dom_Least : mF Go.Proofs.Tryd.prog n_dom_Least F_dom_Least = true := by kernel_rfl
theorem ok_dom_Greatest : mF Go.Proofs.Tryd.prog n_dom_Greatest F_dom_Greatest = true := by kernel_rfl
theorem ok_dom_Single : mF Go.Proofs.Tryd.prog n_dom_Single F_dom_Single = true := by kernel_rfl
theorem ok_dom_May : mF Go.Proofs.Tryd.prog n_dom_May F_dom_May = true := by kernel_rfl
theorem ok_dom_Size : mF Go.Proofs.Tryd.prog n_dom_Size F_dom_Size = true := by kernel_rfl
theorem ok_dom_List : mF Go.Proofs.Tryd.prog n_dom_List F_dom_List = true := by kernel_rfl
theorem ok_dom_Has : mF Go.Proofs.Tryd.prog n_dom_Has F_dom_Has = true := by kernel_rfl
theorem ok_ref03_Same : mF Go.Proofs.Tryd.prog n_ref03_Same F_ref03_Same = true := by kernel_rfl
theorem ok_dom_Spans : mF Go.Proofs.Tryd.prog n_dom_Spans F_dom_Spans = true := by kernel_rfl
theorem ok_dom_Only : mF Go.Proofs.Tryd.prog n_dom_Only F_dom_Only = true := by kernel_rfl
theorem ok_dom_Less : mF Go.Proofs.Tryd.prog n_dom_Less F_dom_Less = true := by kernel_rfl
theorem ok_dom_Between : mF Go.Proofs.Tryd.prog n_dom_Between F_dom_Between = true := by kernel_rfl
theorem ok_dom_Same : mF Go.Proofs.Tryd.prog n_dom_Same F_dom_Same = true := by kernel_rfl
theorem ok_spans_Size : mF Go.Proofs.Tryd.prog n_spans_Size F_spans_Size = true := by kernel_rfl
theorem ok_bits_First : mF Go.Proofs.Tryd.prog n_bits_First F_bits_First = true := by kernel_rfl
theorem ok_dom_at : mF Go.Proofs.Tryd.prog n_dom_at F_dom_at = true := by kernel_rfl
theorem ok_bits_Least : mF Go.Proofs.Tryd.prog n_bits_Least F_bits_Least = true := by kernel_rfl
theorem ok_bits_Greatest : mF Go.Proofs.Tryd.prog n_bits_Greatest F_bits_Greatest = true := by kernel_rfl
theorem ok_dom_asked_int : mF Go.Proofs.Tryd.prog n_dom_asked_int F_dom_asked_int = true := by kernel_rfl
theorem ok_dom_Size_1 : mF Go.Proofs.Tryd.prog n_dom_Size_1 F_dom_Size_1 = true := by kernel_rfl
theorem ok_bits_Count : mF Go.Proofs.Tryd.prog n_bits_Count F_bits_Count = true := by kernel_rfl
theorem ok_dom_asked_sint : mF Go.Proofs.Tryd.prog n_dom_asked_sint F_dom_asked_sint = true := by kernel_rfl
theorem ok_dom_List_1 : mF Go.Proofs.Tryd.prog n_dom_List_1 F_dom_List_1 = true := by kernel_rfl
theorem ok_bits_List : mF Go.Proofs.Tryd.prog n_bits_List F_bits_List = true := by kernel_rfl
theorem ok_slices_Contains_sint_int : mF Go.Proofs.Tryd.prog n_slices_Contains_sint_int F_slices_Contains_sint_int = true := by kernel_rfl
theorem ok_spans_Of : mF Go.Proofs.Tryd.prog n_spans_Of F_spans_Of = true := by kernel_rfl
theorem ok_dom_kept : mF Go.Proofs.Tryd.prog n_dom_kept F_dom_kept = true := by kernel_rfl
theorem ok_dom_Only_1 : mF Go.Proofs.Tryd.prog n_dom_Only_1 F_dom_Only_1 = true := by kernel_rfl
theorem ok_dom_Less_1 : mF Go.Proofs.Tryd.prog n_dom_Less_1 F_dom_Less_1 = true := by kernel_rfl
theorem ok_dom_Between_1 : mF Go.Proofs.Tryd.prog n_dom_Between_1 F_dom_Between_1 = true := by kernel_rfl
theorem ok_slices_Equal_sint_int : mF Go.Proofs.Tryd.prog n_slices_Equal_sint_int F_slices_Equal_sint_int = true := by kernel_rfl
theorem ok_spans_Right : mF Go.Proofs.Tryd.prog n_spans_Right F_spans_Right = true := by kernel_rfl
theorem ok_math_bits_LeadingZeros64 : mF Go.Proofs.Tryd.prog n_math_bits_LeadingZeros64 F_math_bits_LeadingZeros64 = true := by kernel_rfl
theorem ok_math_bits_OnesCount64 : mF Go.Proofs.Tryd.prog n_math_bits_OnesCount64 F_math_bits_OnesCount64 = true := by kernel_rfl
theorem ok_bits_all : mF Go.Proofs.Tryd.prog n_bits_all F_bits_all = true := by kernel_rfl
theorem ok_slices_Index_sint_int : mF Go.Proofs.Tryd.prog n_slices_Index_sint_int F_slices_Index_sint_int = true := by kernel_rfl
theorem ok_slices_Sorted_int : mF Go.Proofs.Tryd.prog n_slices_Sorted_int F_slices_Sorted_int = true := by kernel_rfl
theorem ok_slices_Values_sint_int : mF Go.Proofs.Tryd.prog n_slices_Values_sint_int F_slices_Values_sint_int = true := by kernel_rfl
theorem ok_spans_put : mF Go.Proofs.Tryd.prog n_spans_put F_spans_put = true := by kernel_rfl
theorem ok_dom_asked_dom_Dom : mF Go.Proofs.Tryd.prog n_dom_asked_dom_Dom F_dom_asked_dom_Dom = true := by kernel_rfl
theorem ok_dom_kept_1 : mF Go.Proofs.Tryd.prog n_dom_kept_1 F_dom_kept_1 = true := by kernel_rfl
theorem ok_bits_Of : mF Go.Proofs.Tryd.prog n_bits_Of F_bits_Of = true := by kernel_rfl
theorem ok_bits_all_1 : mF Go.Proofs.Tryd.prog n_bits_all_1 F_bits_all_1 = true := by kernel_rfl
theorem ok_slices_Collect_int : mF Go.Proofs.Tryd.prog n_slices_Collect_int F_slices_Collect_int = true := by kernel_rfl
theorem ok_slices_Values_sint_int_1 : mF Go.Proofs.Tryd.prog n_slices_Values_sint_int_1 F_slices_Values_sint_int_1 = true := by kernel_rfl
theorem ok_slices_AppendSeq_sint_int : mF Go.Proofs.Tryd.prog n_slices_AppendSeq_sint_int F_slices_AppendSeq_sint_int = true := by kernel_rfl
def tbl : List (Nat × F) := [(n_law04_DomOwn, F_law04_DomOwn), (n_ref02_Same, F_ref02_Same), (n_law04_awake, F_law04_awake), (n_dom_New, F_dom_New), (n_dom_Least, F_dom_Least), (n_dom_Greatest, F_dom_Greatest), (n_dom_Single, F_dom_Single), (n_dom_May, F_dom_May), (n_dom_Size, F_dom_Size), (n_dom_List, F_dom_List), (n_dom_Has, F_dom_Has), (n_ref03_Same, F_ref03_Same), (n_dom_Spans, F_dom_Spans), (n_dom_Only, F_dom_Only), (n_dom_Less, F_dom_Less), (n_dom_Between, F_dom_Between), (n_dom_Same, F_dom_Same), (n_spans_Size, F_spans_Size), (n_bits_First, F_bits_First), (n_dom_at, F_dom_at), (n_bits_Least, F_bits_Least), (n_bits_Greatest, F_bits_Greatest), (n_dom_asked_int, F_dom_asked_int), (n_dom_Size_1, F_dom_Size_1), (n_bits_Count, F_bits_Count), (n_dom_asked_sint, F_dom_asked_sint), (n_dom_List_1, F_dom_List_1), (n_bits_List, F_bits_List), (n_slices_Contains_sint_int, F_slices_Contains_sint_int), (n_spans_Of, F_spans_Of), (n_dom_kept, F_dom_kept), (n_dom_Only_1, F_dom_Only_1), (n_dom_Less_1, F_dom_Less_1), (n_dom_Between_1, F_dom_Between_1), (n_slices_Equal_sint_int, F_slices_Equal_sint_int), (n_spans_Right, F_spans_Right), (n_math_bits_LeadingZeros64, F_math_bits_LeadingZeros64), (n_math_bits_OnesCount64, F_math_bits_OnesCount64), (n_bits_all, F_bits_all), (n_slices_Index_sint_int, F_slices_Index_sint_int), (n_slices_Sorted_int, F_slices_Sorted_int), (n_slices_Values_sint_int, F_slices_Values_sint_int), (n_spans_put, F_spans_put), (n_dom_asked_dom_Dom, F_dom_asked_dom_Dom), (n_dom_kept_1, F_dom_kept_1), (n_bits_Of, F_bits_Of), (n_bits_all_1, F_bits_all_1), (n_slices_Collect_int, F_slices_Collect_int), (n_slices_Values_sint_int_1, F_slices_Values_sint_int_1), (n_slices_AppendSeq_sint_int, F_slices_AppendSeq_sint_int)]
def T (n : Nat) : Option F := (tbl.find? fun p => p.1 == n).map (·.2)
theorem T_law04_DomOwn : T n_law04_DomOwn = some F_law04_DomOwn := rfl
theorem T_ref02_Same : T n_ref02_Same = some F_ref02_Same := rfl
theorem T_law04_awake : T n_law04_awake = some F_law04_awake := rfl
theorem T_dom_New : T n_dom_New = some F_dom_New := rfl
theorem T_dom_Least : T n_dom_Least = some F_dom_Least := rfl
theorem T_dom_Greatest : T n_dom_Greatest = some F_dom_Greatest := rfl
theorem T_dom_Single : T n_dom_Single = some F_dom_Single := rfl
theorem T_dom_May : T n_dom_May = some F_dom_May := rfl
theorem T_dom_Size : T n_dom_Size = some F_dom_Size := rfl
theorem T_dom_List : T n_dom_List = some F_dom_List := rfl
theorem T_dom_Has : T n_dom_Has = some F_dom_Has := rfl
theorem T_ref03_Same : T n_ref03_Same = some F_ref03_Same := rfl
theorem T_dom_Spans : T n_dom_Spans = some F_dom_Spans := rfl
theorem T_dom_Only : T n_dom_Only = some F_dom_Only := rfl
theorem T_dom_Less : T n_dom_Less = some F_dom_Less := rfl
theorem T_dom_Between : T n_dom_Between = some F_dom_Between := rfl
theorem T_dom_Same : T n_dom_Same = some F_dom_Same := rfl
theorem T_spans_Size : T n_spans_Size = some F_spans_Size := rfl
theorem T_bits_First : T n_bits_First = some F_bits_First := rfl
theorem T_dom_at : T n_dom_at = some F_dom_at := rfl
theorem T_bits_Least : T n_bits_Least = some F_bits_Least := rfl
theorem T_bits_Greatest : T n_bits_Greatest = some F_bits_Greatest := rfl
theorem T_dom_asked_int : T n_dom_asked_int = some F_dom_asked_int := rfl
theorem T_dom_Size_1 : T n_dom_Size_1 = some F_dom_Size_1 := rfl
theorem T_bits_Count : T n_bits_Count = some F_bits_Count := rfl
theorem T_dom_asked_sint : T n_dom_asked_sint = some F_dom_asked_sint := rfl
theorem T_dom_List_1 : T n_dom_List_1 = some F_dom_List_1 := rfl
theorem T_bits_List : T n_bits_List = some F_bits_List := rfl
theorem T_slices_Contains_sint_int : T n_slices_Contains_sint_int = some F_slices_Contains_sint_int := rfl
theorem T_spans_Of : T n_spans_Of = some F_spans_Of := rfl
theorem T_dom_kept : T n_dom_kept = some F_dom_kept := rfl
theorem T_dom_Only_1 : T n_dom_Only_1 = some F_dom_Only_1 := rfl
theorem T_dom_Less_1 : T n_dom_Less_1 = some F_dom_Less_1 := rfl
theorem T_dom_Between_1 : T n_dom_Between_1 = some F_dom_Between_1 := rfl
theorem T_slices_Equal_sint_int : T n_slices_Equal_sint_int = some F_slices_Equal_sint_int := rfl
theorem T_spans_Right : T n_spans_Right = some F_spans_Right := rfl
theorem T_math_bits_LeadingZeros64 : T n_math_bits_LeadingZeros64 = some F_math_bits_LeadingZeros64 := rfl
theorem T_math_bits_OnesCount64 : T n_math_bits_OnesCount64 = some F_math_bits_OnesCount64 := rfl
theorem T_bits_all : T n_bits_all = some F_bits_all := rfl
theorem T_slices_Index_sint_int : T n_slices_Index_sint_int = some F_slices_Index_sint_int := rfl
theorem T_slices_Sorted_int : T n_slices_Sorted_int = some F_slices_Sorted_int := rfl
theorem T_slices_Values_sint_int : T n_slices_Values_sint_int = some F_slices_Values_sint_int := rfl
theorem T_spans_put : T n_spans_put = some F_spans_put := rfl
theorem T_dom_asked_dom_Dom : T n_dom_asked_dom_Dom = some F_dom_asked_dom_Dom := rfl
theorem T_dom_kept_1 : T n_dom_kept_1 = some F_dom_kept_1 := rfl
theorem T_bits_Of : T n_bits_Of = some F_bits_Of := rfl
theorem T_bits_all_1 : T n_bits_all_1 = some F_bits_all_1 := rfl
theorem T_slices_Collect_int : T n_slices_Collect_int = some F_slices_Collect_int := rfl
theorem T_slices_Values_sint_int_1 : T n_slices_Values_sint_int_1 = some F_slices_Values_sint_int_1 := rfl
theorem T_slices_AppendSeq_sint_int : T n_slices_AppendSeq_sint_int = some F_slices_AppendSeq_sint_int := rfl
theorem T_ok : ∀ f F, T f = some F → mF Go.Proofs.Tryd.prog f F = true := by
  intro f F h
  unfold T at h
  obtain ⟨p, hp, rfl⟩ := Option.map_eq_some_iff.1 h
  have h1 := List.mem_of_find?_eq_some hp
  have h2 : p.1 = f := by simpa using List.find?_some hp
  subst h2
  clear h hp
  simp only [tbl, List.mem_cons, List.not_mem_nil, or_false] at h1
  rcases h1 with rfl | rfl | rfl | rfl | rfl | rfl | rfl | rfl | rfl | rfl | rfl | rfl | rfl | rfl | rfl | rfl | rfl | rfl | rfl | rfl | rfl | rfl | rfl | rfl | rfl | rfl | rfl | rfl | rfl | rfl | rfl | rfl | rfl | rfl | rfl | rfl | rfl | rfl | rfl | rfl | rfl | rfl | rfl | rfl | rfl | rfl | rfl | rfl | rfl | rfl
  · exact ok_law04_DomOwn
  · exact ok_ref02_Same
  · exact ok_law04_awake
  · exact ok_dom_New
  · exact ok_dom_Least
  · exact ok_dom_Greatest
  · exact ok_dom_Single
  · exact ok_dom_May
  · exact ok_dom_Size
  · exact ok_dom_List
  · exact ok_dom_Has
  · exact ok_ref03_Same
  · exact ok_dom_Spans
  · exact ok_dom_Only
  · exact ok_dom_Less
  · exact ok_dom_Between
  · exact ok_dom_Same
  · exact ok_spans_Size
  · exact ok_bits_First
  · exact ok_dom_at
  · exact ok_bits_Least
  · exact ok_bits_Greatest
  · exact ok_dom_asked_int
  · exact ok_dom_Size_1
  · exact ok_bits_Count
  · exact ok_dom_asked_sint
  · exact ok_dom_List_1
  · exact ok_bits_List
  · exact ok_slices_Contains_sint_int
  · exact ok_spans_Of
  · exact ok_dom_kept
  · exact ok_dom_Only_1
  · exact ok_dom_Less_1
  · exact ok_dom_Between_1
  · exact ok_slices_Equal_sint_int
  · exact ok_spans_Right
  · exact ok_math_bits_LeadingZeros64
  · exact ok_math_bits_OnesCount64
  · exact ok_bits_all
  · exact ok_slices_Index_sint_int
  · exact ok_slices_Sorted_int
  · exact ok_slices_Values_sint_int
  · exact ok_spans_put
  · exact ok_dom_asked_dom_Dom
  · exact ok_dom_kept_1
  · exact ok_bits_Of
  · exact ok_bits_all_1
  · exact ok_slices_Collect_int
  · exact ok_slices_Values_sint_int_1
  · exact ok_slices_AppendSeq_sint_int
end Go.RR.M
