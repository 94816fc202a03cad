/- The code of the functions, by name, for the second reading; that it is theirs. -/
import Derived.Test.YtbcgpomifflijaaDoorProg
import Derived.KernelRfl
import Derived.Test.YtbcgpomifflijaaDoorR4
set_option linter.unusedVariables false
set_option linter.unusedSimpArgs false
set_option linter.unusedVariables false
namespace Go.RR.M
open Go Go.RR
set_option maxRecDepth 100000
def n_main_main : Nat := 0
def n_gosem_cut : Nat := 1
def n_gosem_cut_init : Nat := 2
def n_law08_ModelTells : Nat := 3
def n_law08_ModelLess : Nat := 4
def n_law08_ModelNodes : Nat := 5
def n_law04_DomTells : Nat := 6
def n_law04_DomFalls : Nat := 7
def n_law04_DomOwn : Nat := 8
def n_law08_awake : Nat := 9
def n_law08_Large : Nat := 10
def n_law08_cons : Nat := 11
def n_model_Check : Nat := 12
def n_ref08_Check : Nat := 13
def n_model_Name : Nat := 14
def n_ref08_Name : Nat := 15
def n_model_Right : Nat := 16
def n_ref08_Right : Nat := 17
def n_ref08_Decls : Nat := 18
def n_model_Vars : Nat := 19
def n_ref08_Vars : Nat := 20
def n_ref02_Same : Nat := 21
def n_model_Ends : Nat := 22
def n_ref08_Ends : Nat := 23
def n_model_Same : Nat := 24
def n_ref08_Same : Nat := 25
def n_model_Nodes : Nat := 26
def n_ref08_Nodes : Nat := 27
def n_law04_awake : Nat := 28
def n_dom_New : Nat := 29
def n_ref04_New : Nat := 30
def n_ref04_List : Nat := 31
def n_dom_Least : Nat := 32
def n_dom_Greatest : Nat := 33
def n_dom_Single : Nat := 34
def n_ref04_Same : Nat := 35
def n_dom_May : Nat := 36
def n_ref04_May : Nat := 37
def n_dom_Size : Nat := 38
def n_dom_List : Nat := 39
def n_ref03_Of : Nat := 40
def n_ref04_Between : Nat := 41
def n_dom_Has : Nat := 42
def n_ref03_Same : Nat := 43
def n_dom_Spans : Nat := 44
def n_dom_Only : Nat := 45
def n_ref04_Keep : Nat := 46
def n_dom_Less : Nat := 47
def n_ref04_Less : Nat := 48
def n_dom_Between : Nat := 49
def n_dom_Same : Nat := 50
def n_law08_small : Nat := 51
def n_model_big : Nat := 52
def n_slices_ContainsFunc_sapi_Block_api_Block : Nat := 53
def n_model_Check_1 : Nat := 54
def n_slices_ContainsFunc_sapi_Decl_api_Decl : Nat := 55
def n_model_Check_2 : Nat := 56
def n_model_Check_3 : Nat := 57
def n_model_Check_4 : Nat := 58
def n_spans_Size : Nat := 59
def n_model_wrong : Nat := 60
def n_ref03_Size : Nat := 61
def n_strings_Contains : Nat := 62
def n_strings_Trim : Nat := 63
def n_model_looker_linear : Nat := 64
def n_model_looker_product : Nat := 65
def n_model_looker_iff : Nat := 66
def n_model_looker_element : Nat := 67
def n_model_looker_differ : Nat := 68
def n_model_looker_table : Nat := 69
def n_ref08_all : Nat := 70
def n_slices_Clone_sapi_Span_api_Span : Nat := 71
def n_model_Same_1 : Nat := 72
def n_slices_Equal_sapi_Span_api_Span : Nat := 73
def n_model_Same_2 : Nat := 74
def n_slices_EqualFunc_sapi_Decl_sapi_Decl_api_Decl_api_Decl : Nat := 75
def n_slices_EqualFunc_sapi_Con_sapi_Con_api_Con_api_Con : Nat := 76
def n_model_alike : Nat := 77
def n_slices_EqualFunc_sapi_Block_sapi_Block_api_Block_api_Block : Nat := 78
def n_ref08_Alike : Nat := 79
def n_bits_First : Nat := 80
def n_ref03_Values : Nat := 81
def n_ref02_Between : Nat := 82
def n_dom_at : Nat := 83
def n_bits_Least : Nat := 84
def n_bits_Greatest : Nat := 85
def n_dom_asked_int : Nat := 86
def n_dom_Size_1 : Nat := 87
def n_bits_Count : Nat := 88
def n_dom_asked_sint : Nat := 89
def n_dom_List_1 : Nat := 90
def n_bits_List : Nat := 91
def n_slices_Contains_sint_int : Nat := 92
def n_spans_Of : Nat := 93
def n_dom_kept : Nat := 94
def n_dom_Only_1 : Nat := 95
def n_ref02_Set : Nat := 96
def n_dom_Less_1 : Nat := 97
def n_dom_Between_1 : Nat := 98
def n_slices_Equal_sint_int : Nat := 99
def n_model_big_1 : Nat := 100
def n_slices_IndexFunc_sapi_Block_api_Block : Nat := 101
def n_slices_IndexFunc_sapi_Decl_api_Decl : Nat := 102
def n_spans_Right : Nat := 103
def n_slices_ContainsFunc_sapi_Con_api_Con : Nat := 104
def n_model_wrong_1 : Nat := 105
def n_model_wrong_2 : Nat := 106
def n_ref03_Right : Nat := 107
def n_strings_Index : Nat := 108
def n_strings_trimLeftByte : Nat := 109
def n_strings_trimRightByte : Nat := 110
def n_strings_makeASCIISet : Nat := 111
def n_strings_trimLeftASCII : Nat := 112
def n_strings_trimRightASCII : Nat := 113
def n_strings_trimLeftUnicode : Nat := 114
def n_strings_trimRightUnicode : Nat := 115
def n_model_looker_variables : Nat := 116
def n_model_looker_sum : Nat := 117
def n_model_looker_bare : Nat := 118
def n_math_bits_TrailingZeros64 : Nat := 119
def n_math_bits_LeadingZeros64 : Nat := 120
def n_math_bits_OnesCount64 : Nat := 121
def n_bits_all : Nat := 122
def n_slices_Index_sint_int : Nat := 123
def n_slices_Sorted_int : Nat := 124
def n_slices_Values_sint_int : Nat := 125
def n_spans_put : Nat := 126
def n_dom_asked_dom_Dom : Nat := 127
def n_dom_kept_1 : Nat := 128
def n_slices_Clone_sint_int : Nat := 129
def n_bits_Of : Nat := 130
def n_slices_IndexFunc_sapi_Con_api_Con : Nat := 131
def n_stringslite_Index : Nat := 132
def n_strings_asciiSet_contains : Nat := 133
def n_unicode_utf8_DecodeRuneInString : Nat := 134
def n_strings_ContainsRune : Nat := 135
def n_unicode_utf8_DecodeLastRuneInString : Nat := 136
def n_model_within : Nat := 137
def n_math_bits_Len64 : Nat := 138
def n_bits_all_1 : Nat := 139
def n_slices_Collect_int : Nat := 140
def n_slices_Sort_sint_int : Nat := 141
def n_slices_Values_sint_int_1 : Nat := 142
def n_stringslite_IndexByte : Nat := 143
def n_bytealg_IndexString : Nat := 144
def n_bytealg_Cutover : Nat := 145
def n_bytealg_IndexRabinKarp_string : Nat := 146
def n_unicode_utf8_decodeRuneInStringSlow : Nat := 147
def n_strings_IndexRune : Nat := 148
def n_unicode_utf8_RuneStart : Nat := 149
def n_slices_ContainsFunc_sint_int : Nat := 150
def n_model_within_1 : Nat := 151
def n_slices_AppendSeq_sint_int : Nat := 152
def n_slices_pdqsortOrdered_int : Nat := 153
def n_math_bits_Len : Nat := 154
def n_bytealg_IndexByteString : Nat := 155
def n_bytealg_hashStr_string : Nat := 156
def n_strings_IndexByte : Nat := 157
def n_unicode_utf8_ValidRune : Nat := 158
def n_slices_IndexFunc_sint_int : Nat := 159
def n_slices_insertionSortOrdered_int : Nat := 160
def n_slices_heapSortOrdered_int : Nat := 161
def n_slices_breakPatternsOrdered_int : Nat := 162
def n_slices_choosePivotOrdered_int : Nat := 163
def n_slices_reverseRangeOrdered_int : Nat := 164
def n_slices_partialInsertionSortOrdered_int : Nat := 165
def n_cmp_Less_int : Nat := 166
def n_slices_partitionEqualOrdered_int : Nat := 167
def n_slices_partitionOrdered_int : Nat := 168
def n_math_bits_Len32 : Nat := 169
def n_slices_siftDownOrdered_int : Nat := 170
def n_slices_nextPowerOfTwo : Nat := 171
def n_slices_xorshift_Next : Nat := 172
def n_slices_medianAdjacentOrdered_int : Nat := 173
def n_slices_medianOrdered_int : Nat := 174
def n_cmp_isNaN_int : Nat := 175
def n_slices_order2Ordered_int : Nat := 176
def n_runtime_boundsError_Error : Nat := 177
def n_runtime_boundsError_RuntimeError : Nat := 178
def n_runtime_errorString_Error : Nat := 179
def n_runtime_errorString_RuntimeError : Nat := 180
def n_runtime_plainError_Error : Nat := 181
def n_runtime_plainError_RuntimeError : Nat := 182
def n_runtime_errorAddressString_Error : Nat := 183
def n_runtime_errorAddressString_RuntimeError : Nat := 184
def n_runtime_TypeAssertionError_Error : Nat := 185
def n_runtime_TypeAssertionError_RuntimeError : Nat := 186
def n_runtime_PanicNilError_Error : Nat := 187
def n_runtime_PanicNilError_RuntimeError : Nat := 188
def n_abi_Type_Align : Nat := 189
def n_maps_unhashableTypeError_Error : Nat := 190
def n_maps_unhashableTypeError_RuntimeError : Nat := 191
def n_api_Errno_Error : Nat := 192
def n_abi_Kind_String : Nat := 193
def n_var_s_door_gosem_cut_vars_holds_initialisers_alone_see_the_manifest_s_row_cutvarsword_look_11_test_files_too : Nat := 194
def n_var_s_door_math_bits_deBruijn64tab_is_laid_by_its_own_initialiser_plain_data_look_11 : Nat := 195
def n_var_s_door_the_look_of_gosem_cut_vars_went_over_the_folder_that_the_caller_named_as_the_repository_s_root_look_11 : Nat := 196
def n_var_s_door_unicode_utf8_acceptRanges_is_laid_by_its_own_initialiser_plain_data_look_11 : Nat := 197
def n_var_s_door_unicode_utf8_first_is_laid_by_its_text_alone_pinned_1 : Nat := 198
def n_gosem_cut_vars : Nat := 199
/-- stratagem/stratagemlaw08.ModelTells -/
def i_law08_ModelTells : IR := .seq (.rg [⟨(some 5), none, .box (.t 0)⟩,
    ⟨(some 6), none, .box (.t 1)⟩,
    ⟨(some 8), none, .box (.t 3)⟩,
    ⟨(some 10), none, .mov (.c (.bool false))⟩] (some [2, 4, 5, 6, 8]))
   (.seq (.seq (.rg [⟨(some 11), none, .call n_law08_awake []⟩,
    ⟨(some 12), none, .un .not (.t 11)⟩] (some [2, 4, 5, 6, 8, 12]))
   (.cond (.t 12) (.seq (.rg [⟨(some 10), none, .mov (.c (.bool false))⟩] (some [10]))
   (.ret)) (.skip)))
   (.seq (.seq (.rg [⟨(some 13), none, .ld true 2 (.t 5)⟩,
    ⟨(some 14), none, .call n_law08_Large [(.t 13)]⟩,
    ⟨(some 15), none, .mov (.t 14)⟩,
    ⟨(some 16), (some (15, false)), .ld true 2 (.t 6)⟩,
    ⟨(some 17), (some (15, false)), .call n_law08_Large [(.t 16)]⟩,
    ⟨(some 18), none, .pick (.t 15) (.c (.bool true)) (.t 17)⟩,
    ⟨(some 19), none, .mov (.t 18)⟩,
    ⟨(some 20), (some (19, false)), .mov (.t 2)⟩,
    ⟨(some 21), (some (19, false)), .slen (.t 20)⟩,
    ⟨(some 22), (some (19, false)), .bin .gtr (.t 21) (.c (.int .i64 100))⟩,
    ⟨(some 23), none, .pick (.t 19) (.c (.bool true)) (.t 22)⟩,
    ⟨(some 24), none, .mov (.t 23)⟩,
    ⟨(some 25), (some (24, false)), .ld true 6 (.t 8)⟩,
    ⟨(some 26), (some (24, false)), .bsf (.agg [.int .i64 0, .nsl 1, .nsl 1, .int .i64 0, .int .i64 0, .nsl 1]) 1 [(0, (.t 25))]⟩,
    ⟨(some 27), (some (24, false)), .call n_law08_cons [(.t 26)]⟩,
    ⟨(some 28), none, .pick (.t 24) (.c (.bool true)) (.t 27)⟩] (some [2, 4, 5, 6, 8, 28]))
   (.cond (.t 28) (.seq (.rg [⟨(some 10), none, .mov (.c (.bool true))⟩] (some [10]))
   (.ret)) (.skip)))
   (.seq (.dq [(⟨(some 29), none, .ld true 2 (.t 5)⟩, []),
    (⟨(some 30), none, .call n_model_Check [(.t 29)]⟩, [0]),
    (⟨(some 31), none, .ld true 2 (.t 5)⟩, []),
    (⟨(some 32), none, .call n_ref08_Check [(.t 31)]⟩, [0, 1, 2]),
    (⟨(some 33), none, .bin .eql (.t 30) (.t 32)⟩, [0, 1, 2, 3]),
    (⟨(some 34), none, .mov (.t 33)⟩, [0, 1, 2, 3, 4]),
    (⟨(some 35), (some (34, true)), .mov (.t 2)⟩, [0, 1, 2, 3, 4, 5]),
    (⟨(some 36), (some (34, true)), .call n_model_Name [(.t 35)]⟩, [0, 1, 2, 3, 4, 5, 6]),
    (⟨(some 37), (some (34, true)), .mov (.t 2)⟩, [0, 1, 2, 3, 4, 5]),
    (⟨(some 38), (some (34, true)), .call n_ref08_Name [(.t 37)]⟩, [0, 1, 2, 3, 4, 5, 6, 7, 8]),
    (⟨(some 39), (some (34, true)), .eq false .bool (.t 36) (.t 38)⟩, [0, 1, 2, 3, 4, 5, 6, 7, 8, 9]),
    (⟨(some 40), none, .pick (.t 34) (.t 39) (.c (.bool false))⟩, [0, 1, 2, 3, 4, 5, 6, 7, 8, 9, 10]),
    (⟨(some 41), none, .mov (.t 40)⟩, [0, 1, 2, 3, 4, 5, 6, 7, 8, 9, 10, 11]),
    (⟨(some 42), (some (41, true)), .ld true 6 (.t 8)⟩, [0, 1, 2, 3, 4, 5, 6, 7, 8, 9, 10, 11, 12]),
    (⟨(some 43), (some (41, true)), .mov (.t 4)⟩, [0, 1, 2, 3, 4, 5, 6, 7, 8, 9, 10, 11, 12]),
    (⟨(some 44), (some (41, true)), .call n_model_Right [(.t 42), (.t 43)]⟩, [0, 1, 2, 3, 4, 5, 6, 7, 8, 9, 10, 11, 12, 13, 14]),
    (⟨(some 45), (some (41, true)), .ld true 6 (.t 8)⟩, [0, 1, 2, 3, 4, 5, 6, 7, 8, 9, 10, 11, 12]),
    (⟨(some 46), (some (41, true)), .mov (.t 4)⟩, [0, 1, 2, 3, 4, 5, 6, 7, 8, 9, 10, 11, 12]),
    (⟨(some 47), (some (41, true)), .call n_ref08_Right [(.t 45), (.t 46)]⟩, [0, 1, 2, 3, 4, 5, 6, 7, 8, 9, 10, 11, 12, 13, 14, 15, 16, 17]),
    (⟨(some 48), (some (41, true)), .eq false .bool (.t 44) (.t 47)⟩, [0, 1, 2, 3, 4, 5, 6, 7, 8, 9, 10, 11, 12, 13, 14, 15, 16, 17, 18]),
    (⟨(some 49), none, .pick (.t 41) (.t 48) (.c (.bool false))⟩, [0, 1, 2, 3, 4, 5, 6, 7, 8, 9, 10, 11, 12, 13, 14, 15, 16, 17, 18, 19]),
    (⟨(some 50), none, .mov (.t 49)⟩, [0, 1, 2, 3, 4, 5, 6, 7, 8, 9, 10, 11, 12, 13, 14, 15, 16, 17, 18, 19, 20]),
    (⟨(some 51), (some (50, true)), .ld true 2 (.t 5)⟩, [0, 1, 2, 3, 4, 5, 6, 7, 8, 9, 10, 11, 12, 13, 14, 15, 16, 17, 18, 19, 20, 21]),
    (⟨(some 52), (some (50, true)), .call n_model_Vars [(.t 51)]⟩, [0, 1, 2, 3, 4, 5, 6, 7, 8, 9, 10, 11, 12, 13, 14, 15, 16, 17, 18, 19, 20, 21, 22]),
    (⟨(some 53), (some (50, true)), .ld true 2 (.t 5)⟩, [0, 1, 2, 3, 4, 5, 6, 7, 8, 9, 10, 11, 12, 13, 14, 15, 16, 17, 18, 19, 20, 21]),
    (⟨(some 54), (some (50, true)), .call n_ref08_Vars [(.t 53)]⟩, [0, 1, 2, 3, 4, 5, 6, 7, 8, 9, 10, 11, 12, 13, 14, 15, 16, 17, 18, 19, 20, 21, 22, 23, 24]),
    (⟨(some 55), (some (50, true)), .call n_ref08_Decls [(.t 52), (.t 54)]⟩, [0, 1, 2, 3, 4, 5, 6, 7, 8, 9, 10, 11, 12, 13, 14, 15, 16, 17, 18, 19, 20, 21, 22, 23, 24, 25]),
    (⟨(some 56), none, .pick (.t 50) (.t 55) (.c (.bool false))⟩, [0, 1, 2, 3, 4, 5, 6, 7, 8, 9, 10, 11, 12, 13, 14, 15, 16, 17, 18, 19, 20, 21, 22, 23, 24, 25, 26]),
    (⟨(some 57), none, .mov (.t 56)⟩, [0, 1, 2, 3, 4, 5, 6, 7, 8, 9, 10, 11, 12, 13, 14, 15, 16, 17, 18, 19, 20, 21, 22, 23, 24, 25, 26, 27]),
    (⟨(some 58), (some (57, true)), .ld true 2 (.t 5)⟩, [0, 1, 2, 3, 4, 5, 6, 7, 8, 9, 10, 11, 12, 13, 14, 15, 16, 17, 18, 19, 20, 21, 22, 23, 24, 25, 26, 27, 28]),
    (⟨(some 59), (some (57, true)), .call n_model_Ends [(.t 58)]⟩, [0, 1, 2, 3, 4, 5, 6, 7, 8, 9, 10, 11, 12, 13, 14, 15, 16, 17, 18, 19, 20, 21, 22, 23, 24, 25, 26, 27, 28, 29]),
    (⟨(some 60), (some (57, true)), .ld true 2 (.t 5)⟩, [0, 1, 2, 3, 4, 5, 6, 7, 8, 9, 10, 11, 12, 13, 14, 15, 16, 17, 18, 19, 20, 21, 22, 23, 24, 25, 26, 27, 28]),
    (⟨(some 61), (some (57, true)), .call n_ref08_Ends [(.t 60)]⟩, [0, 1, 2, 3, 4, 5, 6, 7, 8, 9, 10, 11, 12, 13, 14, 15, 16, 17, 18, 19, 20, 21, 22, 23, 24, 25, 26, 27, 28, 29, 30, 31]),
    (⟨(some 62), (some (57, true)), .call n_ref02_Same [(.t 59), (.t 61)]⟩, [0, 1, 2, 3, 4, 5, 6, 7, 8, 9, 10, 11, 12, 13, 14, 15, 16, 17, 18, 19, 20, 21, 22, 23, 24, 25, 26, 27, 28, 29, 30, 31, 32]),
    (⟨(some 63), none, .pick (.t 57) (.t 62) (.c (.bool false))⟩, [0, 1, 2, 3, 4, 5, 6, 7, 8, 9, 10, 11, 12, 13, 14, 15, 16, 17, 18, 19, 20, 21, 22, 23, 24, 25, 26, 27, 28, 29, 30, 31, 32, 33]),
    (⟨(some 64), none, .mov (.t 63)⟩, [0, 1, 2, 3, 4, 5, 6, 7, 8, 9, 10, 11, 12, 13, 14, 15, 16, 17, 18, 19, 20, 21, 22, 23, 24, 25, 26, 27, 28, 29, 30, 31, 32, 33, 34]),
    (⟨(some 65), (some (64, true)), .ld true 2 (.t 5)⟩, [0, 1, 2, 3, 4, 5, 6, 7, 8, 9, 10, 11, 12, 13, 14, 15, 16, 17, 18, 19, 20, 21, 22, 23, 24, 25, 26, 27, 28, 29, 30, 31, 32, 33, 34, 35]),
    (⟨(some 66), (some (64, true)), .ld true 2 (.t 6)⟩, [0, 1, 2, 3, 4, 5, 6, 7, 8, 9, 10, 11, 12, 13, 14, 15, 16, 17, 18, 19, 20, 21, 22, 23, 24, 25, 26, 27, 28, 29, 30, 31, 32, 33, 34, 35]),
    (⟨(some 67), (some (64, true)), .call n_model_Same [(.t 65), (.t 66)]⟩, [0, 1, 2, 3, 4, 5, 6, 7, 8, 9, 10, 11, 12, 13, 14, 15, 16, 17, 18, 19, 20, 21, 22, 23, 24, 25, 26, 27, 28, 29, 30, 31, 32, 33, 34, 35, 36, 37]),
    (⟨(some 68), (some (64, true)), .ld true 2 (.t 5)⟩, [0, 1, 2, 3, 4, 5, 6, 7, 8, 9, 10, 11, 12, 13, 14, 15, 16, 17, 18, 19, 20, 21, 22, 23, 24, 25, 26, 27, 28, 29, 30, 31, 32, 33, 34, 35]),
    (⟨(some 69), (some (64, true)), .ld true 2 (.t 6)⟩, [0, 1, 2, 3, 4, 5, 6, 7, 8, 9, 10, 11, 12, 13, 14, 15, 16, 17, 18, 19, 20, 21, 22, 23, 24, 25, 26, 27, 28, 29, 30, 31, 32, 33, 34, 35]),
    (⟨(some 70), (some (64, true)), .call n_ref08_Same [(.t 68), (.t 69)]⟩, [0, 1, 2, 3, 4, 5, 6, 7, 8, 9, 10, 11, 12, 13, 14, 15, 16, 17, 18, 19, 20, 21, 22, 23, 24, 25, 26, 27, 28, 29, 30, 31, 32, 33, 34, 35, 36, 37, 38, 39, 40]),
    (⟨(some 71), (some (64, true)), .eq false .bool (.t 67) (.t 70)⟩, [0, 1, 2, 3, 4, 5, 6, 7, 8, 9, 10, 11, 12, 13, 14, 15, 16, 17, 18, 19, 20, 21, 22, 23, 24, 25, 26, 27, 28, 29, 30, 31, 32, 33, 34, 35, 36, 37, 38, 39, 40, 41]),
    (⟨(some 72), none, .pick (.t 64) (.t 71) (.c (.bool false))⟩, [0, 1, 2, 3, 4, 5, 6, 7, 8, 9, 10, 11, 12, 13, 14, 15, 16, 17, 18, 19, 20, 21, 22, 23, 24, 25, 26, 27, 28, 29, 30, 31, 32, 33, 34, 35, 36, 37, 38, 39, 40, 41, 42]),
    (⟨(some 73), none, .mov (.t 72)⟩, [0, 1, 2, 3, 4, 5, 6, 7, 8, 9, 10, 11, 12, 13, 14, 15, 16, 17, 18, 19, 20, 21, 22, 23, 24, 25, 26, 27, 28, 29, 30, 31, 32, 33, 34, 35, 36, 37, 38, 39, 40, 41, 42, 43]),
    (⟨(some 74), (some (73, true)), .ld true 2 (.t 5)⟩, [0, 1, 2, 3, 4, 5, 6, 7, 8, 9, 10, 11, 12, 13, 14, 15, 16, 17, 18, 19, 20, 21, 22, 23, 24, 25, 26, 27, 28, 29, 30, 31, 32, 33, 34, 35, 36, 37, 38, 39, 40, 41, 42, 43, 44]),
    (⟨(some 75), (some (73, true)), .call n_model_Nodes [(.t 74)]⟩, [0, 1, 2, 3, 4, 5, 6, 7, 8, 9, 10, 11, 12, 13, 14, 15, 16, 17, 18, 19, 20, 21, 22, 23, 24, 25, 26, 27, 28, 29, 30, 31, 32, 33, 34, 35, 36, 37, 38, 39, 40, 41, 42, 43, 44, 45]),
    (⟨(some 76), (some (73, true)), .ld true 2 (.t 5)⟩, [0, 1, 2, 3, 4, 5, 6, 7, 8, 9, 10, 11, 12, 13, 14, 15, 16, 17, 18, 19, 20, 21, 22, 23, 24, 25, 26, 27, 28, 29, 30, 31, 32, 33, 34, 35, 36, 37, 38, 39, 40, 41, 42, 43, 44]),
    (⟨(some 77), (some (73, true)), .call n_ref08_Nodes [(.t 76)]⟩, [0, 1, 2, 3, 4, 5, 6, 7, 8, 9, 10, 11, 12, 13, 14, 15, 16, 17, 18, 19, 20, 21, 22, 23, 24, 25, 26, 27, 28, 29, 30, 31, 32, 33, 34, 35, 36, 37, 38, 39, 40, 41, 42, 43, 44, 45, 46, 47]),
    (⟨(some 78), (some (73, true)), .bin .eql (.t 75) (.t 77)⟩, [0, 1, 2, 3, 4, 5, 6, 7, 8, 9, 10, 11, 12, 13, 14, 15, 16, 17, 18, 19, 20, 21, 22, 23, 24, 25, 26, 27, 28, 29, 30, 31, 32, 33, 34, 35, 36, 37, 38, 39, 40, 41, 42, 43, 44, 45, 46, 47, 48]),
    (⟨(some 79), none, .pick (.t 73) (.t 78) (.c (.bool false))⟩, [0, 1, 2, 3, 4, 5, 6, 7, 8, 9, 10, 11, 12, 13, 14, 15, 16, 17, 18, 19, 20, 21, 22, 23, 24, 25, 26, 27, 28, 29, 30, 31, 32, 33, 34, 35, 36, 37, 38, 39, 40, 41, 42, 43, 44, 45, 46, 47, 48, 49]),
    (⟨(some 10), none, .mov (.t 79)⟩, [0, 1, 2, 3, 4, 5, 6, 7, 8, 9, 10, 11, 12, 13, 14, 15, 16, 17, 18, 19, 20, 21, 22, 23, 24, 25, 26, 27, 28, 29, 30, 31, 32, 33, 34, 35, 36, 37, 38, 39, 40, 41, 42, 43, 44, 45, 46, 47, 48, 49, 50])] (some [10]))
   (.ret))))
def F_law08_ModelTells : F := ⟨i_law08_ModelTells, [(10, none)], false⟩
/-- stratagem/stratagemlaw08.ModelLess -/
def b_law08_ModelLess_0 : IR := .seq (.rg [⟨(some 99), none, .bin .lss (.t 98) (.t 97)⟩] (some [3, 7, 10, 11, 12, 13, 16, 84, 85, 86, 96, 97, 98, 99]))
   (.seq (.cond (.t 99) (.skip) (.ext 2))
   (.seq (.blk 3 (.seq (.rg [⟨(some 100), none, .iad 2 (.t 96) (.t 98)⟩,
    ⟨(some 101), none, .ld true 2 (.t 100)⟩,
    ⟨(some 18), none, .new (.agg [.str [], .nsl 2])⟩,
    ⟨none, none, .st 2 (.t 18) (.t 101)⟩] (some [3, 7, 10, 11, 12, 13, 16, 18, 84, 85, 86, 96, 97, 98]))
   (.seq (.seq (.rg [⟨(some 102), none, .mov (.t 13)⟩,
    ⟨(some 103), none, .mov (.t 10)⟩,
    ⟨(some 104), none, .bin .eql (.t 102) (.t 103)⟩] (some [3, 7, 10, 11, 12, 13, 16, 18, 84, 85, 86, 96, 97, 98, 104]))
   (.cond (.t 104) (.rg [⟨(some 105), none, .mov (.t 7)⟩,
    ⟨(some 106), none, .mov (.t 11)⟩,
    ⟨(some 107), none, .iad 2 (.t 105) (.t 106)⟩,
    ⟨(some 108), none, .fad 0 (.t 107)⟩,
    ⟨(some 109), none, .ld false 1 (.t 108)⟩,
    ⟨(some 110), none, .fad 0 (.t 18)⟩,
    ⟨none, none, .st 1 (.t 110) (.t 109)⟩] (some [3, 7, 10, 11, 12, 13, 16, 18, 84, 85, 86, 96, 97, 98])) (.skip)))
   (.seq (.rg [⟨(some 111), none, .fad 1 (.t 16)⟩,
    ⟨(some 112), none, .ld false 1 (.t 111)⟩,
    ⟨(some 113), none, .ld true 2 (.t 18)⟩,
    ⟨(some 114), none, .bsf (.agg [.str [], .nsl 2]) 1 [(0, (.t 113))]⟩,
    ⟨(some 115), none, .app 2 40 (.t 112) (.t 114)⟩,
    ⟨(some 116), none, .fad 1 (.t 16)⟩,
    ⟨none, none, .st 1 (.t 116) (.t 115)⟩] (some [3, 7, 10, 11, 12, 13, 16, 84, 85, 86, 96, 97, 98]))
   (.rg [⟨(some 117), none, .mov (.t 13)⟩,
    ⟨(some 118), none, .bin .add (.t 117) (.c (.int .i64 1))⟩,
    ⟨(some 13), none, .mov (.t 118)⟩] (some [3, 7, 10, 11, 12, 13, 16, 84, 85, 86, 96, 97, 98]))))))
   (.rg [⟨(some 119), none, .bin .add (.t 98) (.c (.int .i64 1))⟩,
    ⟨(some 98), none, .mov (.t 119)⟩] (some [3, 7, 10, 11, 12, 13, 16, 84, 85, 86, 96, 97, 98]))))
def i_law08_ModelLess_l0 : IR := .loop b_law08_ModelLess_0
theorem r_law08_ModelLess_0 {C : Cx} {fr : Fr} {h : List Ob} : evw C i_law08_ModelLess_l0 fr h = nxt (evw C b_law08_ModelLess_0 fr h) fun fr h => evw C i_law08_ModelLess_l0 fr h := w_loop
def b_law08_ModelLess_1 : IR := .seq (.rg [⟨(some 87), none, .bin .lss (.t 86) (.t 85)⟩] (some [3, 7, 10, 11, 12, 13, 84, 85, 86, 87]))
   (.seq (.cond (.t 87) (.skip) (.ext 0))
   (.seq (.blk 1 (.seq (.rg [⟨(some 88), none, .iad 3 (.t 84) (.t 86)⟩,
    ⟨(some 89), none, .ld true 3 (.t 88)⟩,
    ⟨(some 15), none, .new (.agg [.bool false, .nsl 2, .nsl 6])⟩,
    ⟨none, none, .st 3 (.t 15) (.t 89)⟩] (some [3, 7, 10, 11, 12, 13, 15, 84, 85, 86]))
   (.seq (.rg [⟨(some 90), none, .fad 0 (.t 15)⟩,
    ⟨(some 91), none, .ld false 1 (.t 90)⟩,
    ⟨(some 92), none, .fad 2 (.t 15)⟩,
    ⟨(some 93), none, .ld false 1 (.t 92)⟩,
    ⟨(some 94), none, .bld [.bool false, .nsl 2, .nsl 6] [(0, 1, (.t 91)), (2, 1, (.t 93))]⟩,
    ⟨(some 16), none, .new (.agg [.bool false, .nsl 2, .nsl 6])⟩,
    ⟨none, none, .st 3 (.t 16) (.t 94)⟩] (some [3, 7, 10, 11, 12, 13, 15, 16, 84, 85, 86]))
   (.seq (.seq (.rg [⟨(some 95), none, .fad 1 (.t 15)⟩,
    ⟨(some 96), none, .ld false 1 (.t 95)⟩,
    ⟨(some 97), none, .len (.t 96)⟩,
    ⟨(some 98), none, .mov (.c (.int .i64 0))⟩] (some [3, 7, 10, 11, 12, 13, 16, 84, 85, 86, 96, 97, 98]))
   (.blk 2 (i_law08_ModelLess_l0)))
   (.rg [⟨(some 120), none, .mov (.t 12)⟩,
    ⟨(some 121), none, .ld true 3 (.t 16)⟩,
    ⟨(some 122), none, .bsl (.agg [.bool false, .nsl 2, .nsl 6]) 1 [(0, (.t 121))]⟩,
    ⟨(some 123), none, .app 3 56 (.t 120) (.t 122)⟩,
    ⟨(some 12), none, .mov (.t 123)⟩] (some [3, 7, 10, 11, 12, 13, 84, 85, 86]))))))
   (.rg [⟨(some 124), none, .bin .add (.t 86) (.c (.int .i64 1))⟩,
    ⟨(some 86), none, .mov (.t 124)⟩] (some [3, 7, 10, 11, 12, 13, 84, 85, 86]))))
def i_law08_ModelLess_l1 : IR := .loop b_law08_ModelLess_1
theorem r_law08_ModelLess_1 {C : Cx} {fr : Fr} {h : List Ob} : evw C i_law08_ModelLess_l1 fr h = nxt (evw C b_law08_ModelLess_1 fr h) fun fr h => evw C i_law08_ModelLess_l1 fr h := w_loop
def i_law08_ModelLess : IR := .seq (.rg [⟨(some 3), none, .box (.t 0)⟩,
    ⟨(some 6), none, .mov (.c (.bool false))⟩] (some [1, 2, 3]))
   (.seq (.seq (.rg [⟨(some 19), none, .call n_law08_awake []⟩,
    ⟨(some 20), none, .un .not (.t 19)⟩] (some [1, 2, 3, 20]))
   (.cond (.t 20) (.seq (.rg [⟨(some 6), none, .mov (.c (.bool false))⟩] (some [6]))
   (.ret)) (.skip)))
   (.seq (.seq (.rg [⟨(some 21), none, .ld true 2 (.t 3)⟩,
    ⟨(some 22), none, .call n_law08_Large [(.t 21)]⟩,
    ⟨(some 23), none, .mov (.t 22)⟩,
    ⟨(some 24), (some (23, false)), .ld true 2 (.t 3)⟩,
    ⟨(some 25), (some (23, false)), .call n_model_Check [(.t 24)]⟩,
    ⟨(some 26), (some (23, false)), .bin .neq (.t 25) (.c (.int .i64 0))⟩,
    ⟨(some 27), none, .pick (.t 23) (.c (.bool true)) (.t 26)⟩] (some [1, 2, 3, 27]))
   (.cond (.t 27) (.seq (.rg [⟨(some 6), none, .mov (.c (.bool true))⟩] (some [6]))
   (.ret)) (.skip)))
   (.seq (.rg [⟨(some 28), none, .ld true 2 (.t 3)⟩,
    ⟨(some 29), none, .call n_ref08_Vars [(.t 28)]⟩,
    ⟨(some 7), none, .mov (.t 29)⟩] (some [1, 2, 3, 7]))
   (.seq (.seq (.rg [⟨(some 30), none, .mov (.t 7)⟩,
    ⟨(some 31), none, .len (.t 30)⟩,
    ⟨(some 32), none, .bin .eql (.t 31) (.c (.int .i64 0))⟩] (some [1, 2, 3, 7, 32]))
   (.cond (.t 32) (.seq (.rg [⟨(some 6), none, .mov (.c (.bool false))⟩] (some [6]))
   (.ret)) (.skip)))
   (.seq (.seq (.rg [⟨(some 33), none, .fad 1 (.t 3)⟩,
    ⟨(some 34), none, .ld false 1 (.t 33)⟩,
    ⟨(some 35), none, .len (.t 34)⟩,
    ⟨(some 8), none, .mov (.t 35)⟩] (some [1, 2, 3, 7, 8]))
   (.seq (.rg [⟨(some 36), none, .mov (.t 8)⟩,
    ⟨(some 37), none, .bin .gtr (.t 36) (.c (.int .i64 0))⟩] (some [1, 2, 3, 7, 8, 37]))
   (.cond (.t 37) (.seq (.rg [⟨(some 38), none, .fad 1 (.t 3)⟩,
    ⟨(some 39), none, .ld false 1 (.t 38)⟩,
    ⟨(some 40), none, .mov (.t 8)⟩,
    ⟨(some 41), none, .bin .sub (.t 40) (.c (.int .i64 1))⟩,
    ⟨(some 42), none, .iad 6 (.t 39) (.t 41)⟩,
    ⟨(some 43), none, .ld true 6 (.t 42)⟩,
    ⟨(some 9), none, .new (.agg [.int .i64 0, .nsl 1, .nsl 1, .int .i64 0, .int .i64 0, .nsl 1])⟩,
    ⟨none, none, .st 6 (.t 9) (.t 43)⟩] (some [1, 2, 3, 7, 8, 9]))
   (.seq (.dq [(⟨(some 44), none, .ld true 6 (.t 9)⟩, []),
    (⟨(some 45), none, .mov (.t 7)⟩, []),
    (⟨(some 46), none, .len (.t 45)⟩, [1]),
    (⟨(some 47), none, .call n_model_Right [(.t 44), (.t 46)]⟩, [0, 1, 2]),
    (⟨(some 48), none, .un .not (.t 47)⟩, [0, 1, 2, 3]),
    (⟨(some 49), none, .mov (.t 48)⟩, [0, 1, 2, 3, 4]),
    (⟨(some 50), (some (49, false)), .ld true 6 (.t 9)⟩, [0, 1, 2, 3, 4, 5]),
    (⟨(some 51), (some (49, false)), .mov (.t 7)⟩, [0, 1, 2, 3, 4, 5]),
    (⟨(some 52), (some (49, false)), .len (.t 51)⟩, [0, 1, 2, 3, 4, 5, 7]),
    (⟨(some 53), (some (49, false)), .bin .add (.t 52) (.c (.int .i64 1))⟩, [0, 1, 2, 3, 4, 5, 7, 8]),
    (⟨(some 54), (some (49, false)), .call n_model_Right [(.t 50), (.t 53)]⟩, [0, 1, 2, 3, 4, 5, 6, 7, 8, 9]),
    (⟨(some 55), (some (49, false)), .un .not (.t 54)⟩, [0, 1, 2, 3, 4, 5, 6, 7, 8, 9, 10]),
    (⟨(some 56), none, .pick (.t 49) (.c (.bool true)) (.t 55)⟩, [0, 1, 2, 3, 4, 5, 6, 7, 8, 9, 10, 11]),
    (⟨(some 57), none, .mov (.t 56)⟩, [0, 1, 2, 3, 4, 5, 6, 7, 8, 9, 10, 11, 12]),
    (⟨(some 58), (some (57, false)), .fad 0 (.t 3)⟩, [0, 1, 2, 3, 4, 5, 6, 7, 8, 9, 10, 11, 12, 13]),
    (⟨(some 59), (some (57, false)), .ld false 1 (.t 58)⟩, [0, 1, 2, 3, 4, 5, 6, 7, 8, 9, 10, 11, 12, 13, 14]),
    (⟨(some 60), (some (57, false)), .fad 1 (.t 3)⟩, [0, 1, 2, 3, 4, 5, 6, 7, 8, 9, 10, 11, 12, 13]),
    (⟨(some 61), (some (57, false)), .ld false 1 (.t 60)⟩, [0, 1, 2, 3, 4, 5, 6, 7, 8, 9, 10, 11, 12, 13, 16]),
    (⟨(some 62), (some (57, false)), .mov (.t 8)⟩, [0, 1, 2, 3, 4, 5, 6, 7, 8, 9, 10, 11, 12, 13]),
    (⟨(some 63), (some (57, false)), .bin .sub (.t 62) (.c (.int .i64 1))⟩, [0, 1, 2, 3, 4, 5, 6, 7, 8, 9, 10, 11, 12, 13, 18]),
    (⟨(some 64), (some (57, false)), .sll 6 (.t 61) none (some (.t 63)) none⟩, [0, 1, 2, 3, 4, 5, 6, 7, 8, 9, 10, 11, 12, 13, 16, 17, 18, 19]),
    (⟨(some 65), (some (57, false)), .bld [.nsl 3, .nsl 6] [(0, 1, (.t 59)), (1, 1, (.t 64))]⟩, [0, 1, 2, 3, 4, 5, 6, 7, 8, 9, 10, 11, 12, 13, 14, 15, 16, 17, 18, 19, 20]),
    (⟨(some 66), (some (57, false)), .call n_model_Check [(.t 65)]⟩, [0, 1, 2, 3, 4, 5, 6, 7, 8, 9, 10, 11, 12, 13, 14, 15, 16, 17, 18, 19, 20, 21]),
    (⟨(some 67), (some (57, false)), .bin .neq (.t 66) (.c (.int .i64 0))⟩, [0, 1, 2, 3, 4, 5, 6, 7, 8, 9, 10, 11, 12, 13, 14, 15, 16, 17, 18, 19, 20, 21, 22]),
    (⟨(some 68), none, .pick (.t 57) (.c (.bool true)) (.t 67)⟩, [0, 1, 2, 3, 4, 5, 6, 7, 8, 9, 10, 11, 12, 13, 14, 15, 16, 17, 18, 19, 20, 21, 22, 23])] (some [1, 2, 3, 7, 68]))
   (.cond (.t 68) (.seq (.rg [⟨(some 6), none, .mov (.c (.bool false))⟩] (some [6]))
   (.ret)) (.skip)))) (.skip))))
   (.seq (.dq [(⟨(some 69), none, .mov (.t 1)⟩, []),
    (⟨(some 70), none, .conv .i64 (.t 69)⟩, [0]),
    (⟨(some 71), none, .mov (.t 7)⟩, []),
    (⟨(some 72), none, .len (.t 71)⟩, [2]),
    (⟨(some 73), none, .bin .rem (.t 70) (.t 72)⟩, [0, 1, 2, 3]),
    (⟨(some 74), none, .mov (.t 2)⟩, []),
    (⟨(some 75), none, .conv .i64 (.t 74)⟩, [5]),
    (⟨(some 76), none, .mov (.t 7)⟩, []),
    (⟨(some 77), none, .len (.t 76)⟩, [7]),
    (⟨(some 78), none, .bin .rem (.t 75) (.t 77)⟩, [5, 6, 7, 8]),
    (⟨(some 10), none, .mov (.t 73)⟩, [0, 1, 2, 3, 4]),
    (⟨(some 11), none, .mov (.t 78)⟩, [0, 1, 2, 3, 4, 5, 6, 7, 8, 9, 10])] (some [3, 7, 10, 11]))
   (.seq (.seq (.rg [⟨(some 79), none, .mov (.t 10)⟩,
    ⟨(some 80), none, .mov (.t 11)⟩,
    ⟨(some 81), none, .bin .eql (.t 79) (.t 80)⟩] (some [3, 7, 10, 11, 81]))
   (.cond (.t 81) (.seq (.rg [⟨(some 6), none, .mov (.c (.bool true))⟩] (some [6]))
   (.ret)) (.skip)))
   (.seq (.rg [⟨(some 82), none, .bsl (.agg [.bool false, .nsl 2, .nsl 6]) 0 []⟩,
    ⟨(some 12), none, .mov (.t 82)⟩] (some [3, 7, 10, 11, 12]))
   (.seq (.rg [⟨(some 13), none, .mov (.c (.int .i64 0))⟩] (some [3, 7, 10, 11, 12, 13]))
   (.seq (.seq (.rg [⟨(some 83), none, .fad 0 (.t 3)⟩,
    ⟨(some 84), none, .ld false 1 (.t 83)⟩,
    ⟨(some 85), none, .len (.t 84)⟩,
    ⟨(some 86), none, .mov (.c (.int .i64 0))⟩] (some [3, 7, 10, 11, 12, 13, 84, 85, 86]))
   (.blk 0 (i_law08_ModelLess_l1)))
   (.seq (.rg [⟨(some 125), none, .mov (.t 12)⟩,
    ⟨(some 126), none, .fad 1 (.t 3)⟩,
    ⟨(some 127), none, .ld false 1 (.t 126)⟩,
    ⟨(some 128), none, .bld [.nsl 3, .nsl 6] [(0, 1, (.t 125)), (1, 1, (.t 127))]⟩,
    ⟨(some 129), none, .call n_model_Check [(.t 128)]⟩,
    ⟨(some 130), none, .bin .eql (.t 129) (.c (.int .i64 8))⟩,
    ⟨(some 6), none, .mov (.t 130)⟩] (some [6]))
   (.ret))))))))))))
def F_law08_ModelLess : F := ⟨i_law08_ModelLess, [(6, none)], false⟩
/-- stratagem/stratagemlaw08.ModelNodes -/
def b_law08_ModelNodes_0 : IR := .seq (.rg [⟨(some 33), none, .bin .lss (.t 32) (.t 31)⟩] (some [3, 4, 5, 8, 23, 24, 25, 30, 31, 32, 33]))
   (.seq (.cond (.t 33) (.skip) (.ext 2))
   (.seq (.blk 3 (.seq (.rg [⟨(some 34), none, .iad 2 (.t 30) (.t 32)⟩,
    ⟨(some 35), none, .ld true 2 (.t 34)⟩,
    ⟨(some 10), none, .new (.agg [.int .i64 0, .int .i64 0])⟩,
    ⟨none, none, .st 2 (.t 10) (.t 35)⟩] (some [3, 4, 5, 8, 10, 23, 24, 25, 30, 31, 32]))
   (.rg [⟨(some 36), none, .mov (.t 8)⟩,
    ⟨(some 37), none, .fad 1 (.t 10)⟩,
    ⟨(some 38), none, .ld false 1 (.t 37)⟩,
    ⟨(some 39), none, .fad 0 (.t 10)⟩,
    ⟨(some 40), none, .ld false 1 (.t 39)⟩,
    ⟨(some 41), none, .bin .sub (.t 38) (.t 40)⟩,
    ⟨(some 42), none, .bin .add (.t 41) (.c (.int .i64 1))⟩,
    ⟨(some 43), none, .conv .u64 (.t 42)⟩,
    ⟨(some 44), none, .bin .add (.t 36) (.t 43)⟩,
    ⟨(some 8), none, .mov (.t 44)⟩] (some [3, 4, 5, 8, 23, 24, 25, 30, 31, 32]))))
   (.rg [⟨(some 45), none, .bin .add (.t 32) (.c (.int .i64 1))⟩,
    ⟨(some 32), none, .mov (.t 45)⟩] (some [3, 4, 5, 8, 23, 24, 25, 30, 31, 32]))))
def i_law08_ModelNodes_l0 : IR := .loop b_law08_ModelNodes_0
theorem r_law08_ModelNodes_0 {C : Cx} {fr : Fr} {h : List Ob} : evw C i_law08_ModelNodes_l0 fr h = nxt (evw C b_law08_ModelNodes_0 fr h) fun fr h => evw C i_law08_ModelNodes_l0 fr h := w_loop
def b_law08_ModelNodes_1 : IR := .seq (.rg [⟨(some 26), none, .bin .lss (.t 25) (.t 24)⟩] (some [3, 4, 5, 23, 24, 25, 26]))
   (.seq (.cond (.t 26) (.skip) (.ext 0))
   (.seq (.blk 1 (.seq (.rg [⟨(some 27), none, .iad 2 (.t 23) (.t 25)⟩,
    ⟨(some 28), none, .ld true 2 (.t 27)⟩,
    ⟨(some 7), none, .new (.agg [.str [], .nsl 2])⟩,
    ⟨none, none, .st 2 (.t 7) (.t 28)⟩] (some [3, 4, 5, 7, 23, 24, 25]))
   (.seq (.rg [⟨(some 8), none, .mov (.c (.int .u64 0))⟩] (some [3, 4, 5, 7, 8, 23, 24, 25]))
   (.seq (.seq (.rg [⟨(some 29), none, .fad 1 (.t 7)⟩,
    ⟨(some 30), none, .ld false 1 (.t 29)⟩,
    ⟨(some 31), none, .len (.t 30)⟩,
    ⟨(some 32), none, .mov (.c (.int .i64 0))⟩] (some [3, 4, 5, 8, 23, 24, 25, 30, 31, 32]))
   (.blk 2 (i_law08_ModelNodes_l0)))
   (.seq (.seq (.rg [⟨(some 46), none, .mov (.t 4)⟩,
    ⟨(some 47), none, .bin .gtr (.t 46) (.c (.int .u64 1125899906842624))⟩] (some [3, 4, 5, 8, 23, 24, 25, 47]))
   (.cond (.t 47) (.seq (.rg [⟨(some 48), none, .mov (.t 3)⟩,
    ⟨(some 49), none, .bin .gtr (.t 48) (.c (.int .i64 1125899906842624))⟩,
    ⟨(some 2), none, .mov (.t 49)⟩] (some [2]))
   (.ret)) (.skip)))
   (.seq (.rg [⟨(some 50), none, .mov (.t 4)⟩,
    ⟨(some 51), none, .mov (.t 8)⟩,
    ⟨(some 52), none, .bin .mul (.t 50) (.t 51)⟩,
    ⟨(some 4), none, .mov (.t 52)⟩] (some [3, 4, 5, 23, 24, 25]))
   (.rg [⟨(some 53), none, .mov (.t 5)⟩,
    ⟨(some 54), none, .mov (.t 4)⟩,
    ⟨(some 55), none, .bin .add (.t 53) (.t 54)⟩,
    ⟨(some 5), none, .mov (.t 55)⟩] (some [3, 4, 5, 23, 24, 25]))))))))
   (.rg [⟨(some 56), none, .bin .add (.t 25) (.c (.int .i64 1))⟩,
    ⟨(some 25), none, .mov (.t 56)⟩] (some [3, 4, 5, 23, 24, 25]))))
def i_law08_ModelNodes_l1 : IR := .loop b_law08_ModelNodes_1
theorem r_law08_ModelNodes_1 {C : Cx} {fr : Fr} {h : List Ob} : evw C i_law08_ModelNodes_l1 fr h = nxt (evw C b_law08_ModelNodes_1 fr h) fun fr h => evw C i_law08_ModelNodes_l1 fr h := w_loop
def i_law08_ModelNodes : IR := .seq (.rg [⟨(some 1), none, .box (.t 0)⟩,
    ⟨(some 2), none, .mov (.c (.bool false))⟩] (some [1]))
   (.seq (.seq (.rg [⟨(some 11), none, .call n_law08_awake []⟩,
    ⟨(some 12), none, .un .not (.t 11)⟩] (some [1, 12]))
   (.cond (.t 12) (.seq (.rg [⟨(some 2), none, .mov (.c (.bool false))⟩] (some [2]))
   (.ret)) (.skip)))
   (.seq (.seq (.rg [⟨(some 13), none, .ld true 2 (.t 1)⟩,
    ⟨(some 14), none, .call n_law08_Large [(.t 13)]⟩,
    ⟨(some 15), none, .mov (.t 14)⟩,
    ⟨(some 16), (some (15, false)), .ld true 2 (.t 1)⟩,
    ⟨(some 17), (some (15, false)), .call n_model_Check [(.t 16)]⟩,
    ⟨(some 18), (some (15, false)), .bin .neq (.t 17) (.c (.int .i64 0))⟩,
    ⟨(some 19), none, .pick (.t 15) (.c (.bool true)) (.t 18)⟩] (some [1, 19]))
   (.cond (.t 19) (.seq (.rg [⟨(some 2), none, .mov (.c (.bool true))⟩] (some [2]))
   (.ret)) (.skip)))
   (.seq (.rg [⟨(some 20), none, .ld true 2 (.t 1)⟩,
    ⟨(some 21), none, .call n_model_Nodes [(.t 20)]⟩,
    ⟨(some 3), none, .mov (.t 21)⟩] (some [1, 3]))
   (.seq (.rg [⟨(some 4), none, .mov (.c (.int .u64 1))⟩,
    ⟨(some 5), none, .mov (.c (.int .u64 1))⟩] (some [1, 3, 4, 5]))
   (.seq (.seq (.rg [⟨(some 22), none, .ld true 2 (.t 1)⟩,
    ⟨(some 23), none, .call n_model_Vars [(.t 22)]⟩,
    ⟨(some 24), none, .len (.t 23)⟩,
    ⟨(some 25), none, .mov (.c (.int .i64 0))⟩] (some [3, 4, 5, 23, 24, 25]))
   (.blk 0 (i_law08_ModelNodes_l1)))
   (.seq (.rg [⟨(some 57), none, .mov (.t 3)⟩,
    ⟨(some 58), none, .bin .gtr (.t 57) (.c (.int .i64 0))⟩,
    ⟨(some 59), none, .mov (.t 58)⟩,
    ⟨(some 60), (some (59, true)), .mov (.t 5)⟩,
    ⟨(some 61), (some (59, true)), .mov (.t 3)⟩,
    ⟨(some 62), (some (59, true)), .conv .u64 (.t 61)⟩,
    ⟨(some 63), (some (59, true)), .bin .quo (.t 62) (.c (.int .u64 2))⟩,
    ⟨(some 64), (some (59, true)), .bin .add (.t 63) (.c (.int .u64 1))⟩,
    ⟨(some 65), (some (59, true)), .bin .leq (.t 60) (.t 64)⟩,
    ⟨(some 66), none, .pick (.t 59) (.t 65) (.c (.bool false))⟩,
    ⟨(some 2), none, .mov (.t 66)⟩] (some [2]))
   (.ret)))))))
def F_law08_ModelNodes : F := ⟨i_law08_ModelNodes, [(2, none)], false⟩
/-- stratagem/stratagemlaw08.awake -/
def i_law08_awake : IR := .seq (.rg [⟨(some 0), none, .mov (.c (.bool false))⟩] (some []))
   (.seq (.rg [⟨(some 3), none, .call n_law08_small []⟩,
    ⟨(some 1), none, .new (.agg [.nsl 3, .nsl 6])⟩,
    ⟨none, none, .st 2 (.t 1) (.t 3)⟩] (some [1]))
   (.seq (.rg [⟨(some 4), none, .fad 0 (.t 1)⟩,
    ⟨(some 5), none, .ld false 1 (.t 4)⟩,
    ⟨(some 6), none, .iad 3 (.t 5) (.c (.int .i64 1))⟩,
    ⟨(some 7), none, .fad 1 (.t 6)⟩,
    ⟨(some 8), none, .ld false 1 (.t 7)⟩,
    ⟨(some 9), none, .iad 2 (.t 8) (.c (.int .i64 0))⟩,
    ⟨(some 10), none, .fad 0 (.t 9)⟩,
    ⟨none, none, .st 1 (.t 10) (.c (.str [121]))⟩] (some [1]))
   (.seq (.dq [(⟨(some 11), none, .call n_law08_small []⟩, []),
    (⟨(some 12), none, .call n_model_Vars [(.t 11)]⟩, []),
    (⟨(some 2), none, .mov (.t 12)⟩, [])] (some [1, 2]))
   (.seq (.dq [(⟨(some 13), none, .call n_law08_small []⟩, []),
    (⟨(some 14), none, .call n_model_Check [(.t 13)]⟩, [0]),
    (⟨(some 15), none, .bin .eql (.t 14) (.c (.int .i64 0))⟩, [0, 1]),
    (⟨(some 16), none, .mov (.t 15)⟩, [0, 1, 2]),
    (⟨(some 17), (some (16, true)), .ld true 2 (.t 1)⟩, [0, 1, 2, 3]),
    (⟨(some 18), (some (16, true)), .call n_model_Check [(.t 17)]⟩, [0, 1, 2, 3, 4]),
    (⟨(some 19), (some (16, true)), .bin .eql (.t 18) (.c (.int .i64 8))⟩, [0, 1, 2, 3, 4, 5]),
    (⟨(some 20), none, .pick (.t 16) (.t 19) (.c (.bool false))⟩, [0, 1, 2, 3, 4, 5, 6]),
    (⟨(some 21), none, .mov (.t 20)⟩, [0, 1, 2, 3, 4, 5, 6, 7]),
    (⟨(some 22), (some (21, true)), .bld [.nsl 3, .nsl 6] []⟩, [0, 1, 2, 3, 4, 5, 6, 7, 8]),
    (⟨(some 23), (some (21, true)), .call n_model_Check [(.t 22)]⟩, [0, 1, 2, 3, 4, 5, 6, 7, 8, 9]),
    (⟨(some 24), (some (21, true)), .bin .eql (.t 23) (.c (.int .i64 2))⟩, [0, 1, 2, 3, 4, 5, 6, 7, 8, 9, 10]),
    (⟨(some 25), none, .pick (.t 21) (.t 24) (.c (.bool false))⟩, [0, 1, 2, 3, 4, 5, 6, 7, 8, 9, 10, 11]),
    (⟨(some 26), none, .mov (.t 25)⟩, [0, 1, 2, 3, 4, 5, 6, 7, 8, 9, 10, 11, 12]),
    (⟨(some 27), (some (26, true)), .call n_model_Name [(.c (.str [97, 95, 49]))]⟩, [0, 1, 2, 3, 4, 5, 6, 7, 8, 9, 10, 11, 12, 13]),
    (⟨(some 28), none, .pick (.t 26) (.t 27) (.c (.bool false))⟩, [0, 1, 2, 3, 4, 5, 6, 7, 8, 9, 10, 11, 12, 13, 14]),
    (⟨(some 29), none, .mov (.t 28)⟩, [0, 1, 2, 3, 4, 5, 6, 7, 8, 9, 10, 11, 12, 13, 14, 15]),
    (⟨(some 30), (some (29, true)), .call n_model_Name [(.c (.str [103, 111, 97, 108]))]⟩, [0, 1, 2, 3, 4, 5, 6, 7, 8, 9, 10, 11, 12, 13, 14, 15, 16]),
    (⟨(some 31), (some (29, true)), .un .not (.t 30)⟩, [0, 1, 2, 3, 4, 5, 6, 7, 8, 9, 10, 11, 12, 13, 14, 15, 16, 17]),
    (⟨(some 32), none, .pick (.t 29) (.t 31) (.c (.bool false))⟩, [0, 1, 2, 3, 4, 5, 6, 7, 8, 9, 10, 11, 12, 13, 14, 15, 16, 17, 18]),
    (⟨(some 33), none, .mov (.t 32)⟩, [0, 1, 2, 3, 4, 5, 6, 7, 8, 9, 10, 11, 12, 13, 14, 15, 16, 17, 18, 19]),
    (⟨(some 34), (some (33, true)), .call n_model_Name [(.c (.str [49, 97]))]⟩, [0, 1, 2, 3, 4, 5, 6, 7, 8, 9, 10, 11, 12, 13, 14, 15, 16, 17, 18, 19, 20]),
    (⟨(some 35), (some (33, true)), .un .not (.t 34)⟩, [0, 1, 2, 3, 4, 5, 6, 7, 8, 9, 10, 11, 12, 13, 14, 15, 16, 17, 18, 19, 20, 21]),
    (⟨(some 36), none, .pick (.t 33) (.t 35) (.c (.bool false))⟩, [0, 1, 2, 3, 4, 5, 6, 7, 8, 9, 10, 11, 12, 13, 14, 15, 16, 17, 18, 19, 20, 21, 22]),
    (⟨(some 37), none, .mov (.t 36)⟩, [0, 1, 2, 3, 4, 5, 6, 7, 8, 9, 10, 11, 12, 13, 14, 15, 16, 17, 18, 19, 20, 21, 22, 23]),
    (⟨(some 38), (some (37, true)), .call n_law08_small []⟩, [0, 1, 2, 3, 4, 5, 6, 7, 8, 9, 10, 11, 12, 13, 14, 15, 16, 17, 18, 19, 20, 21, 22, 23, 24]),
    (⟨(some 39), (some (37, true)), .fld false 1 1 (.t 38)⟩, [0, 1, 2, 3, 4, 5, 6, 7, 8, 9, 10, 11, 12, 13, 14, 15, 16, 17, 18, 19, 20, 21, 22, 23, 24, 25]),
    (⟨(some 40), (some (37, true)), .iad 6 (.t 39) (.c (.int .i64 0))⟩, [0, 1, 2, 3, 4, 5, 6, 7, 8, 9, 10, 11, 12, 13, 14, 15, 16, 17, 18, 19, 20, 21, 22, 23, 24, 25, 26]),
    (⟨(some 41), (some (37, true)), .ld true 6 (.t 40)⟩, [0, 1, 2, 3, 4, 5, 6, 7, 8, 9, 10, 11, 12, 13, 14, 15, 16, 17, 18, 19, 20, 21, 22, 23, 24, 25, 26, 27]),
    (⟨(some 42), (some (37, true)), .call n_model_Right [(.t 41), (.c (.int .i64 2))]⟩, [0, 1, 2, 3, 4, 5, 6, 7, 8, 9, 10, 11, 12, 13, 14, 15, 16, 17, 18, 19, 20, 21, 22, 23, 24, 25, 26, 27, 28]),
    (⟨(some 43), none, .pick (.t 37) (.t 42) (.c (.bool false))⟩, [0, 1, 2, 3, 4, 5, 6, 7, 8, 9, 10, 11, 12, 13, 14, 15, 16, 17, 18, 19, 20, 21, 22, 23, 24, 25, 26, 27, 28, 29]),
    (⟨(some 44), none, .mov (.t 43)⟩, [0, 1, 2, 3, 4, 5, 6, 7, 8, 9, 10, 11, 12, 13, 14, 15, 16, 17, 18, 19, 20, 21, 22, 23, 24, 25, 26, 27, 28, 29, 30]),
    (⟨(some 45), (some (44, true)), .call n_law08_small []⟩, [0, 1, 2, 3, 4, 5, 6, 7, 8, 9, 10, 11, 12, 13, 14, 15, 16, 17, 18, 19, 20, 21, 22, 23, 24, 25, 26, 27, 28, 29, 30, 31]),
    (⟨(some 46), (some (44, true)), .fld false 1 1 (.t 45)⟩, [0, 1, 2, 3, 4, 5, 6, 7, 8, 9, 10, 11, 12, 13, 14, 15, 16, 17, 18, 19, 20, 21, 22, 23, 24, 25, 26, 27, 28, 29, 30, 31, 32]),
    (⟨(some 47), (some (44, true)), .iad 6 (.t 46) (.c (.int .i64 0))⟩, [0, 1, 2, 3, 4, 5, 6, 7, 8, 9, 10, 11, 12, 13, 14, 15, 16, 17, 18, 19, 20, 21, 22, 23, 24, 25, 26, 27, 28, 29, 30, 31, 32, 33]),
    (⟨(some 48), (some (44, true)), .ld true 6 (.t 47)⟩, [0, 1, 2, 3, 4, 5, 6, 7, 8, 9, 10, 11, 12, 13, 14, 15, 16, 17, 18, 19, 20, 21, 22, 23, 24, 25, 26, 27, 28, 29, 30, 31, 32, 33, 34]),
    (⟨(some 49), (some (44, true)), .call n_model_Right [(.t 48), (.c (.int .i64 1))]⟩, [0, 1, 2, 3, 4, 5, 6, 7, 8, 9, 10, 11, 12, 13, 14, 15, 16, 17, 18, 19, 20, 21, 22, 23, 24, 25, 26, 27, 28, 29, 30, 31, 32, 33, 34, 35]),
    (⟨(some 50), (some (44, true)), .un .not (.t 49)⟩, [0, 1, 2, 3, 4, 5, 6, 7, 8, 9, 10, 11, 12, 13, 14, 15, 16, 17, 18, 19, 20, 21, 22, 23, 24, 25, 26, 27, 28, 29, 30, 31, 32, 33, 34, 35, 36]),
    (⟨(some 51), none, .pick (.t 44) (.t 50) (.c (.bool false))⟩, [0, 1, 2, 3, 4, 5, 6, 7, 8, 9, 10, 11, 12, 13, 14, 15, 16, 17, 18, 19, 20, 21, 22, 23, 24, 25, 26, 27, 28, 29, 30, 31, 32, 33, 34, 35, 36, 37]),
    (⟨(some 52), none, .mov (.t 51)⟩, [0, 1, 2, 3, 4, 5, 6, 7, 8, 9, 10, 11, 12, 13, 14, 15, 16, 17, 18, 19, 20, 21, 22, 23, 24, 25, 26, 27, 28, 29, 30, 31, 32, 33, 34, 35, 36, 37, 38]),
    (⟨(some 53), (some (52, true)), .call n_law08_small []⟩, [0, 1, 2, 3, 4, 5, 6, 7, 8, 9, 10, 11, 12, 13, 14, 15, 16, 17, 18, 19, 20, 21, 22, 23, 24, 25, 26, 27, 28, 29, 30, 31, 32, 33, 34, 35, 36, 37, 38, 39]),
    (⟨(some 54), (some (52, true)), .call n_model_Ends [(.t 53)]⟩, [0, 1, 2, 3, 4, 5, 6, 7, 8, 9, 10, 11, 12, 13, 14, 15, 16, 17, 18, 19, 20, 21, 22, 23, 24, 25, 26, 27, 28, 29, 30, 31, 32, 33, 34, 35, 36, 37, 38, 39, 40]),
    (⟨(some 55), (some (52, true)), .bsf (.int .i64 0) 2 [(0, (.c (.int .i64 1))), (1, (.c (.int .i64 2)))]⟩, [0, 1, 2, 3, 4, 5, 6, 7, 8, 9, 10, 11, 12, 13, 14, 15, 16, 17, 18, 19, 20, 21, 22, 23, 24, 25, 26, 27, 28, 29, 30, 31, 32, 33, 34, 35, 36, 37, 38, 39]),
    (⟨(some 56), (some (52, true)), .call n_ref02_Same [(.t 54), (.t 55)]⟩, [0, 1, 2, 3, 4, 5, 6, 7, 8, 9, 10, 11, 12, 13, 14, 15, 16, 17, 18, 19, 20, 21, 22, 23, 24, 25, 26, 27, 28, 29, 30, 31, 32, 33, 34, 35, 36, 37, 38, 39, 40, 41, 42]),
    (⟨(some 57), none, .pick (.t 52) (.t 56) (.c (.bool false))⟩, [0, 1, 2, 3, 4, 5, 6, 7, 8, 9, 10, 11, 12, 13, 14, 15, 16, 17, 18, 19, 20, 21, 22, 23, 24, 25, 26, 27, 28, 29, 30, 31, 32, 33, 34, 35, 36, 37, 38, 39, 40, 41, 42, 43]),
    (⟨(some 58), none, .mov (.t 57)⟩, [0, 1, 2, 3, 4, 5, 6, 7, 8, 9, 10, 11, 12, 13, 14, 15, 16, 17, 18, 19, 20, 21, 22, 23, 24, 25, 26, 27, 28, 29, 30, 31, 32, 33, 34, 35, 36, 37, 38, 39, 40, 41, 42, 43, 44]),
    (⟨(some 59), (some (58, true)), .mov (.t 2)⟩, [0, 1, 2, 3, 4, 5, 6, 7, 8, 9, 10, 11, 12, 13, 14, 15, 16, 17, 18, 19, 20, 21, 22, 23, 24, 25, 26, 27, 28, 29, 30, 31, 32, 33, 34, 35, 36, 37, 38, 39, 40, 41, 42, 43, 44, 45]),
    (⟨(some 60), (some (58, true)), .len (.t 59)⟩, [0, 1, 2, 3, 4, 5, 6, 7, 8, 9, 10, 11, 12, 13, 14, 15, 16, 17, 18, 19, 20, 21, 22, 23, 24, 25, 26, 27, 28, 29, 30, 31, 32, 33, 34, 35, 36, 37, 38, 39, 40, 41, 42, 43, 44, 45, 46]),
    (⟨(some 61), (some (58, true)), .bin .eql (.t 60) (.c (.int .i64 2))⟩, [0, 1, 2, 3, 4, 5, 6, 7, 8, 9, 10, 11, 12, 13, 14, 15, 16, 17, 18, 19, 20, 21, 22, 23, 24, 25, 26, 27, 28, 29, 30, 31, 32, 33, 34, 35, 36, 37, 38, 39, 40, 41, 42, 43, 44, 45, 46, 47]),
    (⟨(some 62), none, .pick (.t 58) (.t 61) (.c (.bool false))⟩, [0, 1, 2, 3, 4, 5, 6, 7, 8, 9, 10, 11, 12, 13, 14, 15, 16, 17, 18, 19, 20, 21, 22, 23, 24, 25, 26, 27, 28, 29, 30, 31, 32, 33, 34, 35, 36, 37, 38, 39, 40, 41, 42, 43, 44, 45, 46, 47, 48]),
    (⟨(some 63), none, .mov (.t 62)⟩, [0, 1, 2, 3, 4, 5, 6, 7, 8, 9, 10, 11, 12, 13, 14, 15, 16, 17, 18, 19, 20, 21, 22, 23, 24, 25, 26, 27, 28, 29, 30, 31, 32, 33, 34, 35, 36, 37, 38, 39, 40, 41, 42, 43, 44, 45, 46, 47, 48, 49]),
    (⟨(some 64), (some (63, true)), .mov (.t 2)⟩, [0, 1, 2, 3, 4, 5, 6, 7, 8, 9, 10, 11, 12, 13, 14, 15, 16, 17, 18, 19, 20, 21, 22, 23, 24, 25, 26, 27, 28, 29, 30, 31, 32, 33, 34, 35, 36, 37, 38, 39, 40, 41, 42, 43, 44, 45, 46, 47, 48, 49, 50]),
    (⟨(some 65), (some (63, true)), .iad 2 (.t 64) (.c (.int .i64 1))⟩, [0, 1, 2, 3, 4, 5, 6, 7, 8, 9, 10, 11, 12, 13, 14, 15, 16, 17, 18, 19, 20, 21, 22, 23, 24, 25, 26, 27, 28, 29, 30, 31, 32, 33, 34, 35, 36, 37, 38, 39, 40, 41, 42, 43, 44, 45, 46, 47, 48, 49, 50, 51]),
    (⟨(some 66), (some (63, true)), .fad 0 (.t 65)⟩, [0, 1, 2, 3, 4, 5, 6, 7, 8, 9, 10, 11, 12, 13, 14, 15, 16, 17, 18, 19, 20, 21, 22, 23, 24, 25, 26, 27, 28, 29, 30, 31, 32, 33, 34, 35, 36, 37, 38, 39, 40, 41, 42, 43, 44, 45, 46, 47, 48, 49, 50, 51, 52]),
    (⟨(some 67), (some (63, true)), .ld false 1 (.t 66)⟩, [0, 1, 2, 3, 4, 5, 6, 7, 8, 9, 10, 11, 12, 13, 14, 15, 16, 17, 18, 19, 20, 21, 22, 23, 24, 25, 26, 27, 28, 29, 30, 31, 32, 33, 34, 35, 36, 37, 38, 39, 40, 41, 42, 43, 44, 45, 46, 47, 48, 49, 50, 51, 52, 53]),
    (⟨(some 68), (some (63, true)), .bin .eql (.t 67) (.c (.str [120]))⟩, [0, 1, 2, 3, 4, 5, 6, 7, 8, 9, 10, 11, 12, 13, 14, 15, 16, 17, 18, 19, 20, 21, 22, 23, 24, 25, 26, 27, 28, 29, 30, 31, 32, 33, 34, 35, 36, 37, 38, 39, 40, 41, 42, 43, 44, 45, 46, 47, 48, 49, 50, 51, 52, 53, 54]),
    (⟨(some 69), none, .pick (.t 63) (.t 68) (.c (.bool false))⟩, [0, 1, 2, 3, 4, 5, 6, 7, 8, 9, 10, 11, 12, 13, 14, 15, 16, 17, 18, 19, 20, 21, 22, 23, 24, 25, 26, 27, 28, 29, 30, 31, 32, 33, 34, 35, 36, 37, 38, 39, 40, 41, 42, 43, 44, 45, 46, 47, 48, 49, 50, 51, 52, 53, 54, 55]),
    (⟨(some 70), none, .mov (.t 69)⟩, [0, 1, 2, 3, 4, 5, 6, 7, 8, 9, 10, 11, 12, 13, 14, 15, 16, 17, 18, 19, 20, 21, 22, 23, 24, 25, 26, 27, 28, 29, 30, 31, 32, 33, 34, 35, 36, 37, 38, 39, 40, 41, 42, 43, 44, 45, 46, 47, 48, 49, 50, 51, 52, 53, 54, 55, 56]),
    (⟨(some 71), (some (70, true)), .call n_law08_small []⟩, [0, 1, 2, 3, 4, 5, 6, 7, 8, 9, 10, 11, 12, 13, 14, 15, 16, 17, 18, 19, 20, 21, 22, 23, 24, 25, 26, 27, 28, 29, 30, 31, 32, 33, 34, 35, 36, 37, 38, 39, 40, 41, 42, 43, 44, 45, 46, 47, 48, 49, 50, 51, 52, 53, 54, 55, 56, 57]),
    (⟨(some 72), (some (70, true)), .call n_law08_small []⟩, [0, 1, 2, 3, 4, 5, 6, 7, 8, 9, 10, 11, 12, 13, 14, 15, 16, 17, 18, 19, 20, 21, 22, 23, 24, 25, 26, 27, 28, 29, 30, 31, 32, 33, 34, 35, 36, 37, 38, 39, 40, 41, 42, 43, 44, 45, 46, 47, 48, 49, 50, 51, 52, 53, 54, 55, 56, 57, 58]),
    (⟨(some 73), (some (70, true)), .call n_model_Same [(.t 71), (.t 72)]⟩, [0, 1, 2, 3, 4, 5, 6, 7, 8, 9, 10, 11, 12, 13, 14, 15, 16, 17, 18, 19, 20, 21, 22, 23, 24, 25, 26, 27, 28, 29, 30, 31, 32, 33, 34, 35, 36, 37, 38, 39, 40, 41, 42, 43, 44, 45, 46, 47, 48, 49, 50, 51, 52, 53, 54, 55, 56, 57, 58, 59]),
    (⟨(some 74), none, .pick (.t 70) (.t 73) (.c (.bool false))⟩, [0, 1, 2, 3, 4, 5, 6, 7, 8, 9, 10, 11, 12, 13, 14, 15, 16, 17, 18, 19, 20, 21, 22, 23, 24, 25, 26, 27, 28, 29, 30, 31, 32, 33, 34, 35, 36, 37, 38, 39, 40, 41, 42, 43, 44, 45, 46, 47, 48, 49, 50, 51, 52, 53, 54, 55, 56, 57, 58, 59, 60]),
    (⟨(some 75), none, .mov (.t 74)⟩, [0, 1, 2, 3, 4, 5, 6, 7, 8, 9, 10, 11, 12, 13, 14, 15, 16, 17, 18, 19, 20, 21, 22, 23, 24, 25, 26, 27, 28, 29, 30, 31, 32, 33, 34, 35, 36, 37, 38, 39, 40, 41, 42, 43, 44, 45, 46, 47, 48, 49, 50, 51, 52, 53, 54, 55, 56, 57, 58, 59, 60, 61]),
    (⟨(some 76), (some (75, true)), .call n_law08_small []⟩, [0, 1, 2, 3, 4, 5, 6, 7, 8, 9, 10, 11, 12, 13, 14, 15, 16, 17, 18, 19, 20, 21, 22, 23, 24, 25, 26, 27, 28, 29, 30, 31, 32, 33, 34, 35, 36, 37, 38, 39, 40, 41, 42, 43, 44, 45, 46, 47, 48, 49, 50, 51, 52, 53, 54, 55, 56, 57, 58, 59, 60, 61, 62]),
    (⟨(some 77), (some (75, true)), .ld true 2 (.t 1)⟩, [0, 1, 2, 3, 4, 5, 6, 7, 8, 9, 10, 11, 12, 13, 14, 15, 16, 17, 18, 19, 20, 21, 22, 23, 24, 25, 26, 27, 28, 29, 30, 31, 32, 33, 34, 35, 36, 37, 38, 39, 40, 41, 42, 43, 44, 45, 46, 47, 48, 49, 50, 51, 52, 53, 54, 55, 56, 57, 58, 59, 60, 61, 62]),
    (⟨(some 78), (some (75, true)), .call n_model_Same [(.t 76), (.t 77)]⟩, [0, 1, 2, 3, 4, 5, 6, 7, 8, 9, 10, 11, 12, 13, 14, 15, 16, 17, 18, 19, 20, 21, 22, 23, 24, 25, 26, 27, 28, 29, 30, 31, 32, 33, 34, 35, 36, 37, 38, 39, 40, 41, 42, 43, 44, 45, 46, 47, 48, 49, 50, 51, 52, 53, 54, 55, 56, 57, 58, 59, 60, 61, 62, 63, 64]),
    (⟨(some 79), (some (75, true)), .un .not (.t 78)⟩, [0, 1, 2, 3, 4, 5, 6, 7, 8, 9, 10, 11, 12, 13, 14, 15, 16, 17, 18, 19, 20, 21, 22, 23, 24, 25, 26, 27, 28, 29, 30, 31, 32, 33, 34, 35, 36, 37, 38, 39, 40, 41, 42, 43, 44, 45, 46, 47, 48, 49, 50, 51, 52, 53, 54, 55, 56, 57, 58, 59, 60, 61, 62, 63, 64, 65]),
    (⟨(some 80), none, .pick (.t 75) (.t 79) (.c (.bool false))⟩, [0, 1, 2, 3, 4, 5, 6, 7, 8, 9, 10, 11, 12, 13, 14, 15, 16, 17, 18, 19, 20, 21, 22, 23, 24, 25, 26, 27, 28, 29, 30, 31, 32, 33, 34, 35, 36, 37, 38, 39, 40, 41, 42, 43, 44, 45, 46, 47, 48, 49, 50, 51, 52, 53, 54, 55, 56, 57, 58, 59, 60, 61, 62, 63, 64, 65, 66]),
    (⟨(some 81), none, .mov (.t 80)⟩, [0, 1, 2, 3, 4, 5, 6, 7, 8, 9, 10, 11, 12, 13, 14, 15, 16, 17, 18, 19, 20, 21, 22, 23, 24, 25, 26, 27, 28, 29, 30, 31, 32, 33, 34, 35, 36, 37, 38, 39, 40, 41, 42, 43, 44, 45, 46, 47, 48, 49, 50, 51, 52, 53, 54, 55, 56, 57, 58, 59, 60, 61, 62, 63, 64, 65, 66, 67]),
    (⟨(some 82), (some (81, true)), .call n_law08_small []⟩, [0, 1, 2, 3, 4, 5, 6, 7, 8, 9, 10, 11, 12, 13, 14, 15, 16, 17, 18, 19, 20, 21, 22, 23, 24, 25, 26, 27, 28, 29, 30, 31, 32, 33, 34, 35, 36, 37, 38, 39, 40, 41, 42, 43, 44, 45, 46, 47, 48, 49, 50, 51, 52, 53, 54, 55, 56, 57, 58, 59, 60, 61, 62, 63, 64, 65, 66, 67, 68]),
    (⟨(some 83), (some (81, true)), .call n_model_Nodes [(.t 82)]⟩, [0, 1, 2, 3, 4, 5, 6, 7, 8, 9, 10, 11, 12, 13, 14, 15, 16, 17, 18, 19, 20, 21, 22, 23, 24, 25, 26, 27, 28, 29, 30, 31, 32, 33, 34, 35, 36, 37, 38, 39, 40, 41, 42, 43, 44, 45, 46, 47, 48, 49, 50, 51, 52, 53, 54, 55, 56, 57, 58, 59, 60, 61, 62, 63, 64, 65, 66, 67, 68, 69]),
    (⟨(some 84), (some (81, true)), .bin .eql (.t 83) (.c (.int .i64 18))⟩, [0, 1, 2, 3, 4, 5, 6, 7, 8, 9, 10, 11, 12, 13, 14, 15, 16, 17, 18, 19, 20, 21, 22, 23, 24, 25, 26, 27, 28, 29, 30, 31, 32, 33, 34, 35, 36, 37, 38, 39, 40, 41, 42, 43, 44, 45, 46, 47, 48, 49, 50, 51, 52, 53, 54, 55, 56, 57, 58, 59, 60, 61, 62, 63, 64, 65, 66, 67, 68, 69, 70]),
    (⟨(some 85), none, .pick (.t 81) (.t 84) (.c (.bool false))⟩, [0, 1, 2, 3, 4, 5, 6, 7, 8, 9, 10, 11, 12, 13, 14, 15, 16, 17, 18, 19, 20, 21, 22, 23, 24, 25, 26, 27, 28, 29, 30, 31, 32, 33, 34, 35, 36, 37, 38, 39, 40, 41, 42, 43, 44, 45, 46, 47, 48, 49, 50, 51, 52, 53, 54, 55, 56, 57, 58, 59, 60, 61, 62, 63, 64, 65, 66, 67, 68, 69, 70, 71]),
    (⟨(some 0), none, .mov (.t 85)⟩, [0, 1, 2, 3, 4, 5, 6, 7, 8, 9, 10, 11, 12, 13, 14, 15, 16, 17, 18, 19, 20, 21, 22, 23, 24, 25, 26, 27, 28, 29, 30, 31, 32, 33, 34, 35, 36, 37, 38, 39, 40, 41, 42, 43, 44, 45, 46, 47, 48, 49, 50, 51, 52, 53, 54, 55, 56, 57, 58, 59, 60, 61, 62, 63, 64, 65, 66, 67, 68, 69, 70, 71, 72])] (some [0]))
   (.ret)))))
def F_law08_awake : F := ⟨i_law08_awake, [(0, none)], false⟩
/-- stratagem/stratagemlaw08.Large -/
def b_law08_Large_0 : IR := .seq (.rg [⟨(some 36), none, .bin .lss (.t 35) (.t 34)⟩] (some [17, 18, 19, 33, 34, 35, 36]))
   (.seq (.cond (.t 36) (.skip) (.ext 2))
   (.seq (.blk 3 (.seq (.rg [⟨(some 37), none, .iad 2 (.t 33) (.t 35)⟩,
    ⟨(some 38), none, .ld true 2 (.t 37)⟩,
    ⟨(some 6), none, .new (.agg [.str [], .nsl 2])⟩,
    ⟨none, none, .st 2 (.t 6) (.t 38)⟩] (some [6, 17, 18, 19, 33, 34, 35]))
   (.seq (.rg [⟨(some 39), none, .fad 0 (.t 6)⟩,
    ⟨(some 40), none, .ld false 1 (.t 39)⟩,
    ⟨(some 41), none, .slen (.t 40)⟩,
    ⟨(some 42), none, .bin .gtr (.t 41) (.c (.int .i64 100))⟩,
    ⟨(some 43), none, .mov (.t 42)⟩,
    ⟨(some 44), (some (43, false)), .fad 1 (.t 6)⟩,
    ⟨(some 45), (some (43, false)), .ld false 1 (.t 44)⟩,
    ⟨(some 46), (some (43, false)), .len (.t 45)⟩,
    ⟨(some 47), (some (43, false)), .bin .gtr (.t 46) (.c (.int .i64 150))⟩,
    ⟨(some 48), none, .pick (.t 43) (.c (.bool true)) (.t 47)⟩] (some [17, 18, 19, 33, 34, 35, 48]))
   (.cond (.t 48) (.seq (.rg [⟨(some 2), none, .mov (.c (.bool true))⟩] (some [2]))
   (.ret)) (.skip)))))
   (.rg [⟨(some 49), none, .bin .add (.t 35) (.c (.int .i64 1))⟩,
    ⟨(some 35), none, .mov (.t 49)⟩] (some [17, 18, 19, 33, 34, 35]))))
def i_law08_Large_l0 : IR := .loop b_law08_Large_0
theorem r_law08_Large_0 {C : Cx} {fr : Fr} {h : List Ob} : evw C i_law08_Large_l0 fr h = nxt (evw C b_law08_Large_0 fr h) fun fr h => evw C i_law08_Large_l0 fr h := w_loop
def b_law08_Large_1 : IR := .seq (.rg [⟨(some 20), none, .bin .lss (.t 19) (.t 18)⟩] (some [17, 18, 19, 20]))
   (.seq (.cond (.t 20) (.skip) (.ext 0))
   (.seq (.blk 1 (.seq (.rg [⟨(some 21), none, .iad 3 (.t 17) (.t 19)⟩,
    ⟨(some 22), none, .ld true 3 (.t 21)⟩,
    ⟨(some 4), none, .new (.agg [.bool false, .nsl 2, .nsl 6])⟩,
    ⟨none, none, .st 3 (.t 4) (.t 22)⟩] (some [4, 17, 18, 19]))
   (.seq (.seq (.rg [⟨(some 23), none, .fad 1 (.t 4)⟩,
    ⟨(some 24), none, .ld false 1 (.t 23)⟩,
    ⟨(some 25), none, .len (.t 24)⟩,
    ⟨(some 26), none, .bin .gtr (.t 25) (.c (.int .i64 30))⟩,
    ⟨(some 27), none, .mov (.t 26)⟩,
    ⟨(some 28), (some (27, false)), .fad 2 (.t 4)⟩,
    ⟨(some 29), (some (27, false)), .ld false 1 (.t 28)⟩,
    ⟨(some 30), (some (27, false)), .call n_law08_cons [(.t 29)]⟩,
    ⟨(some 31), none, .pick (.t 27) (.c (.bool true)) (.t 30)⟩] (some [4, 17, 18, 19, 31]))
   (.cond (.t 31) (.seq (.rg [⟨(some 2), none, .mov (.c (.bool true))⟩] (some [2]))
   (.ret)) (.skip)))
   (.seq (.rg [⟨(some 32), none, .fad 1 (.t 4)⟩,
    ⟨(some 33), none, .ld false 1 (.t 32)⟩,
    ⟨(some 34), none, .len (.t 33)⟩,
    ⟨(some 35), none, .mov (.c (.int .i64 0))⟩] (some [17, 18, 19, 33, 34, 35]))
   (.blk 2 (i_law08_Large_l0))))))
   (.rg [⟨(some 50), none, .bin .add (.t 19) (.c (.int .i64 1))⟩,
    ⟨(some 19), none, .mov (.t 50)⟩] (some [17, 18, 19]))))
def i_law08_Large_l1 : IR := .loop b_law08_Large_1
theorem r_law08_Large_1 {C : Cx} {fr : Fr} {h : List Ob} : evw C i_law08_Large_l1 fr h = nxt (evw C b_law08_Large_1 fr h) fun fr h => evw C i_law08_Large_l1 fr h := w_loop
def i_law08_Large : IR := .seq (.rg [⟨(some 1), none, .box (.t 0)⟩,
    ⟨(some 2), none, .mov (.c (.bool false))⟩] (some [1]))
   (.seq (.seq (.rg [⟨(some 7), none, .fad 0 (.t 1)⟩,
    ⟨(some 8), none, .ld false 1 (.t 7)⟩,
    ⟨(some 9), none, .len (.t 8)⟩,
    ⟨(some 10), none, .bin .gtr (.t 9) (.c (.int .i64 30))⟩,
    ⟨(some 11), none, .mov (.t 10)⟩,
    ⟨(some 12), (some (11, false)), .fad 1 (.t 1)⟩,
    ⟨(some 13), (some (11, false)), .ld false 1 (.t 12)⟩,
    ⟨(some 14), (some (11, false)), .call n_law08_cons [(.t 13)]⟩,
    ⟨(some 15), none, .pick (.t 11) (.c (.bool true)) (.t 14)⟩] (some [1, 15]))
   (.cond (.t 15) (.seq (.rg [⟨(some 2), none, .mov (.c (.bool true))⟩] (some [2]))
   (.ret)) (.skip)))
   (.seq (.seq (.rg [⟨(some 16), none, .fad 0 (.t 1)⟩,
    ⟨(some 17), none, .ld false 1 (.t 16)⟩,
    ⟨(some 18), none, .len (.t 17)⟩,
    ⟨(some 19), none, .mov (.c (.int .i64 0))⟩] (some [17, 18, 19]))
   (.blk 0 (i_law08_Large_l1)))
   (.seq (.rg [⟨(some 2), none, .mov (.c (.bool false))⟩] (some [2]))
   (.ret))))
def F_law08_Large : F := ⟨i_law08_Large, [(2, none)], false⟩
/-- stratagem/stratagemlaw08.cons -/
def b_law08_cons_0 : IR := .seq (.rg [⟨(some 11), none, .bin .lss (.t 10) (.t 9)⟩] (some [8, 9, 10, 11]))
   (.seq (.cond (.t 11) (.skip) (.ext 0))
   (.seq (.blk 1 (.seq (.rg [⟨(some 12), none, .iad 6 (.t 8) (.t 10)⟩,
    ⟨(some 13), none, .ld true 6 (.t 12)⟩,
    ⟨(some 4), none, .new (.agg [.int .i64 0, .nsl 1, .nsl 1, .int .i64 0, .int .i64 0, .nsl 1])⟩,
    ⟨none, none, .st 6 (.t 4) (.t 13)⟩] (some [4, 8, 9, 10]))
   (.seq (.rg [⟨(some 14), none, .fad 1 (.t 4)⟩,
    ⟨(some 15), none, .ld false 1 (.t 14)⟩,
    ⟨(some 16), none, .len (.t 15)⟩,
    ⟨(some 17), none, .bin .gtr (.t 16) (.c (.int .i64 150))⟩,
    ⟨(some 18), none, .mov (.t 17)⟩,
    ⟨(some 19), (some (18, false)), .fad 2 (.t 4)⟩,
    ⟨(some 20), (some (18, false)), .ld false 1 (.t 19)⟩,
    ⟨(some 21), (some (18, false)), .len (.t 20)⟩,
    ⟨(some 22), (some (18, false)), .bin .gtr (.t 21) (.c (.int .i64 150))⟩,
    ⟨(some 23), none, .pick (.t 18) (.c (.bool true)) (.t 22)⟩,
    ⟨(some 24), none, .mov (.t 23)⟩,
    ⟨(some 25), (some (24, false)), .fad 5 (.t 4)⟩,
    ⟨(some 26), (some (24, false)), .ld false 1 (.t 25)⟩,
    ⟨(some 27), (some (24, false)), .len (.t 26)⟩,
    ⟨(some 28), (some (24, false)), .bin .gtr (.t 27) (.c (.int .i64 150))⟩,
    ⟨(some 29), none, .pick (.t 24) (.c (.bool true)) (.t 28)⟩] (some [8, 9, 10, 29]))
   (.cond (.t 29) (.seq (.rg [⟨(some 2), none, .mov (.c (.bool true))⟩] (some [2]))
   (.ret)) (.skip)))))
   (.rg [⟨(some 30), none, .bin .add (.t 10) (.c (.int .i64 1))⟩,
    ⟨(some 10), none, .mov (.t 30)⟩] (some [8, 9, 10]))))
def i_law08_cons_l0 : IR := .loop b_law08_cons_0
theorem r_law08_cons_0 {C : Cx} {fr : Fr} {h : List Ob} : evw C i_law08_cons_l0 fr h = nxt (evw C b_law08_cons_0 fr h) fun fr h => evw C i_law08_cons_l0 fr h := w_loop
def i_law08_cons : IR := .seq (.rg [⟨(some 2), none, .mov (.c (.bool false))⟩] (some [0]))
   (.seq (.seq (.rg [⟨(some 5), none, .mov (.t 0)⟩,
    ⟨(some 6), none, .len (.t 5)⟩,
    ⟨(some 7), none, .bin .gtr (.t 6) (.c (.int .i64 30))⟩] (some [0, 7]))
   (.cond (.t 7) (.seq (.rg [⟨(some 2), none, .mov (.c (.bool true))⟩] (some [2]))
   (.ret)) (.skip)))
   (.seq (.seq (.rg [⟨(some 8), none, .mov (.t 0)⟩,
    ⟨(some 9), none, .len (.t 8)⟩,
    ⟨(some 10), none, .mov (.c (.int .i64 0))⟩] (some [8, 9, 10]))
   (.blk 0 (i_law08_cons_l0)))
   (.seq (.rg [⟨(some 2), none, .mov (.c (.bool false))⟩] (some [2]))
   (.ret))))
def F_law08_cons : F := ⟨i_law08_cons, [(2, none)], false⟩
/-- stratagem/model.Check -/
def b_model_Check_0 : IR := .seq (.rg [⟨(some 24), none, .bin .lss (.t 23) (.t 22)⟩] (some [1, 3, 21, 22, 23, 24]))
   (.seq (.cond (.t 24) (.skip) (.ext 0))
   (.seq (.blk 1 (.seq (.rg [⟨(some 25), none, .mov (.t 23)⟩,
    ⟨(some 26), none, .iad 2 (.t 21) (.t 23)⟩,
    ⟨(some 27), none, .ld true 2 (.t 26)⟩,
    ⟨(some 5), none, .new (.agg [.str [], .nsl 2])⟩,
    ⟨(some 4), none, .mov (.t 25)⟩,
    ⟨none, none, .st 2 (.t 5) (.t 27)⟩] (some [1, 3, 4, 5, 21, 22, 23]))
   (.seq (.rg [⟨(some 28), none, .mov (.t 3)⟩,
    ⟨(some 29), none, .mov (.t 4)⟩,
    ⟨(some 30), none, .sll 2 (.t 28) none (some (.t 29)) none⟩,
    ⟨(some 31), none, .mkf (.func n_model_Check_3) [] [(.t 5)]⟩,
    ⟨(some 32), none, .call n_slices_ContainsFunc_sapi_Decl_api_Decl [(.t 30), (.t 31)]⟩] (some [1, 3, 21, 22, 23, 32]))
   (.cond (.t 32) (.seq (.rg [⟨(some 2), none, .mov (.c (.int .i64 8))⟩] (some [2]))
   (.ret)) (.skip)))))
   (.rg [⟨(some 33), none, .bin .add (.t 23) (.c (.int .i64 1))⟩,
    ⟨(some 23), none, .mov (.t 33)⟩] (some [1, 3, 21, 22, 23]))))
def i_model_Check_l0 : IR := .loop b_model_Check_0
theorem r_model_Check_0 {C : Cx} {fr : Fr} {h : List Ob} : evw C i_model_Check_l0 fr h = nxt (evw C b_model_Check_0 fr h) fun fr h => evw C i_model_Check_l0 fr h := w_loop
def i_model_Check : IR := .seq (.rg [⟨(some 1), none, .box (.t 0)⟩,
    ⟨(some 2), none, .mov (.c (.int .i64 0))⟩] (some [1]))
   (.seq (.seq (.rg [⟨(some 6), none, .ld true 2 (.t 1)⟩,
    ⟨(some 7), none, .call n_model_big [(.t 6)]⟩] (some [1, 7]))
   (.cond (.t 7) (.seq (.rg [⟨(some 2), none, .mov (.c (.int .i64 5))⟩] (some [2]))
   (.ret)) (.skip)))
   (.seq (.seq (.rg [⟨(some 8), none, .fad 0 (.t 1)⟩,
    ⟨(some 9), none, .ld false 1 (.t 8)⟩,
    ⟨(some 10), none, .len (.t 9)⟩,
    ⟨(some 11), none, .bin .eql (.t 10) (.c (.int .i64 0))⟩,
    ⟨(some 12), none, .mov (.t 11)⟩,
    ⟨(some 13), (some (12, false)), .fad 0 (.t 1)⟩,
    ⟨(some 14), (some (12, false)), .ld false 1 (.t 13)⟩,
    ⟨(some 15), (some (12, false)), .call n_slices_ContainsFunc_sapi_Block_api_Block [(.t 14), (.c (.fn (.func n_model_Check_1) [] []))]⟩,
    ⟨(some 16), none, .pick (.t 12) (.c (.bool true)) (.t 15)⟩] (some [1, 16]))
   (.cond (.t 16) (.seq (.rg [⟨(some 2), none, .mov (.c (.int .i64 2))⟩] (some [2]))
   (.ret)) (.skip)))
   (.seq (.rg [⟨(some 17), none, .ld true 2 (.t 1)⟩,
    ⟨(some 18), none, .call n_model_Vars [(.t 17)]⟩,
    ⟨(some 3), none, .mov (.t 18)⟩] (some [1, 3]))
   (.seq (.seq (.rg [⟨(some 19), none, .mov (.t 3)⟩,
    ⟨(some 20), none, .call n_slices_ContainsFunc_sapi_Decl_api_Decl [(.t 19), (.c (.fn (.func n_model_Check_2) [] []))]⟩] (some [1, 3, 20]))
   (.cond (.t 20) (.seq (.rg [⟨(some 2), none, .mov (.c (.int .i64 7))⟩] (some [2]))
   (.ret)) (.skip)))
   (.seq (.seq (.rg [⟨(some 21), none, .mov (.t 3)⟩,
    ⟨(some 22), none, .len (.t 21)⟩,
    ⟨(some 23), none, .mov (.c (.int .i64 0))⟩] (some [1, 3, 21, 22, 23]))
   (.blk 0 (i_model_Check_l0)))
   (.seq (.seq (.rg [⟨(some 34), none, .mov (.t 3)⟩,
    ⟨(some 35), none, .call n_slices_ContainsFunc_sapi_Decl_api_Decl [(.t 34), (.c (.fn (.func n_model_Check_4) [] []))]⟩] (some [1, 35]))
   (.cond (.t 35) (.seq (.rg [⟨(some 2), none, .mov (.c (.int .i64 1))⟩] (some [2]))
   (.ret)) (.skip)))
   (.seq (.seq (.rg [⟨(some 36), none, .ld true 2 (.t 1)⟩,
    ⟨(some 37), none, .call n_model_wrong [(.t 36)]⟩] (some [37]))
   (.cond (.t 37) (.seq (.rg [⟨(some 2), none, .mov (.c (.int .i64 12))⟩] (some [2]))
   (.ret)) (.skip)))
   (.seq (.rg [⟨(some 2), none, .mov (.c (.int .i64 0))⟩] (some [2]))
   (.ret)))))))))
def F_model_Check : F := ⟨i_model_Check, [(2, none)], false⟩
/-- stratagem/stratagemref08.Check -/
def b_ref08_Check_0 : IR := .seq (.seq (.rg [⟨(some 63), none, .mov (.t 8)⟩,
    ⟨(some 64), none, .fad 0 (.t 1)⟩,
    ⟨(some 65), none, .ld false 1 (.t 64)⟩,
    ⟨(some 66), none, .mov (.t 7)⟩,
    ⟨(some 67), none, .iad 3 (.t 65) (.t 66)⟩,
    ⟨(some 68), none, .fad 2 (.t 67)⟩,
    ⟨(some 69), none, .ld false 1 (.t 68)⟩,
    ⟨(some 70), none, .len (.t 69)⟩,
    ⟨(some 71), none, .bin .lss (.t 63) (.t 70)⟩] (some [1, 3, 4, 5, 6, 7, 8, 71]))
   (.cond (.t 71) (.skip) (.ext 2)))
   (.seq (.blk 3 (.dq [(⟨(some 74), none, .mov (.t 5)⟩, []),
    (⟨(some 75), none, .mov (.t 74)⟩, [0]),
    (⟨(some 76), (some (75, false)), .fad 0 (.t 1)⟩, [0, 1]),
    (⟨(some 77), (some (75, false)), .ld false 1 (.t 76)⟩, [0, 1, 2]),
    (⟨(some 78), (some (75, false)), .mov (.t 7)⟩, [0, 1]),
    (⟨(some 79), (some (75, false)), .iad 3 (.t 77) (.t 78)⟩, [0, 1, 2, 3, 4]),
    (⟨(some 80), (some (75, false)), .fad 2 (.t 79)⟩, [0, 1, 2, 3, 4, 5]),
    (⟨(some 81), (some (75, false)), .ld false 1 (.t 80)⟩, [0, 1, 2, 3, 4, 5, 6]),
    (⟨(some 82), (some (75, false)), .mov (.t 8)⟩, [0, 1]),
    (⟨(some 83), (some (75, false)), .iad 6 (.t 81) (.t 82)⟩, [0, 1, 2, 3, 4, 5, 6, 7, 8]),
    (⟨(some 84), (some (75, false)), .ld true 6 (.t 83)⟩, [0, 1, 2, 3, 4, 5, 6, 7, 8, 9]),
    (⟨(some 85), (some (75, false)), .mov (.t 6)⟩, [0, 1]),
    (⟨(some 86), (some (75, false)), .mov (.t 7)⟩, [0, 1]),
    (⟨(some 87), (some (75, false)), .iad 1 (.t 85) (.t 86)⟩, [0, 1, 11, 12]),
    (⟨(some 88), (some (75, false)), .ld false 1 (.t 87)⟩, [0, 1, 11, 12, 13]),
    (⟨(some 89), (some (75, false)), .call n_ref08_Right [(.t 84), (.t 88)]⟩, [0, 1, 2, 3, 4, 5, 6, 7, 8, 9, 10, 11, 12, 13, 14]),
    (⟨(some 90), (some (75, false)), .un .not (.t 89)⟩, [0, 1, 2, 3, 4, 5, 6, 7, 8, 9, 10, 11, 12, 13, 14, 15]),
    (⟨(some 91), none, .pick (.t 75) (.c (.bool true)) (.t 90)⟩, [0, 1, 2, 3, 4, 5, 6, 7, 8, 9, 10, 11, 12, 13, 14, 15, 16]),
    (⟨(some 5), none, .mov (.t 91)⟩, [0, 1, 2, 3, 4, 5, 6, 7, 8, 9, 10, 11, 12, 13, 14, 15, 16, 17])] (some [1, 3, 4, 5, 6, 7, 8])))
   (.rg [⟨(some 72), none, .mov (.t 8)⟩,
    ⟨(some 73), none, .bin .add (.t 72) (.c (.int .i64 1))⟩,
    ⟨(some 8), none, .mov (.t 73)⟩] (some [1, 3, 4, 5, 6, 7, 8])))
def i_ref08_Check_l0 : IR := .loop b_ref08_Check_0
theorem r_ref08_Check_0 {C : Cx} {fr : Fr} {h : List Ob} : evw C i_ref08_Check_l0 fr h = nxt (evw C b_ref08_Check_0 fr h) fun fr h => evw C i_ref08_Check_l0 fr h := w_loop
def b_ref08_Check_1 : IR := .seq (.seq (.rg [⟨(some 37), none, .mov (.t 7)⟩,
    ⟨(some 38), none, .fad 0 (.t 1)⟩,
    ⟨(some 39), none, .ld false 1 (.t 38)⟩,
    ⟨(some 40), none, .len (.t 39)⟩,
    ⟨(some 41), none, .bin .lss (.t 37) (.t 40)⟩] (some [1, 3, 4, 5, 6, 7, 41]))
   (.cond (.t 41) (.skip) (.ext 0)))
   (.seq (.blk 1 (.seq (.seq (.rg [⟨(some 44), none, .fad 0 (.t 1)⟩,
    ⟨(some 45), none, .ld false 1 (.t 44)⟩,
    ⟨(some 46), none, .mov (.t 7)⟩,
    ⟨(some 47), none, .iad 3 (.t 45) (.t 46)⟩,
    ⟨(some 48), none, .fad 2 (.t 47)⟩,
    ⟨(some 49), none, .ld false 1 (.t 48)⟩,
    ⟨(some 50), none, .len (.t 49)⟩,
    ⟨(some 51), none, .bin .gtr (.t 50) (.c (.int .i64 16))⟩] (some [1, 3, 4, 5, 6, 7, 51]))
   (.cond (.t 51) (.seq (.rg [⟨(some 2), none, .mov (.c (.int .i64 5))⟩] (some [2]))
   (.ret)) (.skip)))
   (.seq (.rg [⟨(some 52), none, .mov (.t 4)⟩,
    ⟨(some 53), none, .mov (.t 52)⟩,
    ⟨(some 54), (some (53, false)), .fad 0 (.t 1)⟩,
    ⟨(some 55), (some (53, false)), .ld false 1 (.t 54)⟩,
    ⟨(some 56), (some (53, false)), .mov (.t 7)⟩,
    ⟨(some 57), (some (53, false)), .iad 3 (.t 55) (.t 56)⟩,
    ⟨(some 58), (some (53, false)), .fad 1 (.t 57)⟩,
    ⟨(some 59), (some (53, false)), .ld false 1 (.t 58)⟩,
    ⟨(some 60), (some (53, false)), .len (.t 59)⟩,
    ⟨(some 61), (some (53, false)), .bin .eql (.t 60) (.c (.int .i64 0))⟩,
    ⟨(some 62), none, .pick (.t 53) (.c (.bool true)) (.t 61)⟩,
    ⟨(some 4), none, .mov (.t 62)⟩] (some [1, 3, 4, 5, 6, 7]))
   (.seq (.rg [⟨(some 8), none, .mov (.c (.int .i64 0))⟩] (some [1, 3, 4, 5, 6, 7, 8]))
   (.blk 2 (i_ref08_Check_l0))))))
   (.rg [⟨(some 42), none, .mov (.t 7)⟩,
    ⟨(some 43), none, .bin .add (.t 42) (.c (.int .i64 1))⟩,
    ⟨(some 7), none, .mov (.t 43)⟩] (some [1, 3, 4, 5, 6, 7])))
def i_ref08_Check_l1 : IR := .loop b_ref08_Check_1
theorem r_ref08_Check_1 {C : Cx} {fr : Fr} {h : List Ob} : evw C i_ref08_Check_l1 fr h = nxt (evw C b_ref08_Check_1 fr h) fun fr h => evw C i_ref08_Check_l1 fr h := w_loop
def b_ref08_Check_2 : IR := .seq (.seq (.rg [⟨(some 92), none, .mov (.t 9)⟩,
    ⟨(some 93), none, .fad 1 (.t 1)⟩,
    ⟨(some 94), none, .ld false 1 (.t 93)⟩,
    ⟨(some 95), none, .len (.t 94)⟩,
    ⟨(some 96), none, .bin .lss (.t 92) (.t 95)⟩] (some [1, 3, 4, 5, 9, 96]))
   (.cond (.t 96) (.skip) (.ext 4)))
   (.seq (.blk 5 (.rg [⟨(some 99), none, .mov (.t 5)⟩,
    ⟨(some 100), none, .mov (.t 99)⟩,
    ⟨(some 101), (some (100, false)), .fad 1 (.t 1)⟩,
    ⟨(some 102), (some (100, false)), .ld false 1 (.t 101)⟩,
    ⟨(some 103), (some (100, false)), .mov (.t 9)⟩,
    ⟨(some 104), (some (100, false)), .iad 6 (.t 102) (.t 103)⟩,
    ⟨(some 105), (some (100, false)), .ld true 6 (.t 104)⟩,
    ⟨(some 106), (some (100, false)), .mov (.t 3)⟩,
    ⟨(some 107), (some (100, false)), .len (.t 106)⟩,
    ⟨(some 108), (some (100, false)), .call n_ref08_Right [(.t 105), (.t 107)]⟩,
    ⟨(some 109), (some (100, false)), .un .not (.t 108)⟩,
    ⟨(some 110), none, .pick (.t 100) (.c (.bool true)) (.t 109)⟩,
    ⟨(some 5), none, .mov (.t 110)⟩] (some [1, 3, 4, 5, 9])))
   (.rg [⟨(some 97), none, .mov (.t 9)⟩,
    ⟨(some 98), none, .bin .add (.t 97) (.c (.int .i64 1))⟩,
    ⟨(some 9), none, .mov (.t 98)⟩] (some [1, 3, 4, 5, 9])))
def i_ref08_Check_l2 : IR := .loop b_ref08_Check_2
theorem r_ref08_Check_2 {C : Cx} {fr : Fr} {h : List Ob} : evw C i_ref08_Check_l2 fr h = nxt (evw C b_ref08_Check_2 fr h) fun fr h => evw C i_ref08_Check_l2 fr h := w_loop
def b_ref08_Check_3 : IR := .seq (.seq (.rg [⟨(some 112), none, .mov (.t 10)⟩,
    ⟨(some 113), none, .mov (.t 3)⟩,
    ⟨(some 114), none, .len (.t 113)⟩,
    ⟨(some 115), none, .bin .lss (.t 112) (.t 114)⟩] (some [3, 5, 10, 115]))
   (.cond (.t 115) (.skip) (.ext 6)))
   (.seq (.blk 7 (.seq (.rg [⟨(some 118), none, .mov (.t 3)⟩,
    ⟨(some 119), none, .mov (.t 10)⟩,
    ⟨(some 120), none, .iad 2 (.t 118) (.t 119)⟩,
    ⟨(some 121), none, .fad 0 (.t 120)⟩,
    ⟨(some 122), none, .ld false 1 (.t 121)⟩,
    ⟨(some 123), none, .call n_ref08_Name [(.t 122)]⟩,
    ⟨(some 124), none, .un .not (.t 123)⟩] (some [3, 5, 10, 124]))
   (.cond (.t 124) (.seq (.rg [⟨(some 2), none, .mov (.c (.int .i64 7))⟩] (some [2]))
   (.ret)) (.skip))))
   (.rg [⟨(some 116), none, .mov (.t 10)⟩,
    ⟨(some 117), none, .bin .add (.t 116) (.c (.int .i64 1))⟩,
    ⟨(some 10), none, .mov (.t 117)⟩] (some [3, 5, 10])))
def i_ref08_Check_l3 : IR := .loop b_ref08_Check_3
theorem r_ref08_Check_3 {C : Cx} {fr : Fr} {h : List Ob} : evw C i_ref08_Check_l3 fr h = nxt (evw C b_ref08_Check_3 fr h) fun fr h => evw C i_ref08_Check_l3 fr h := w_loop
def b_ref08_Check_4 : IR := .seq (.seq (.rg [⟨(some 131), none, .mov (.t 12)⟩,
    ⟨(some 132), none, .mov (.t 11)⟩,
    ⟨(some 133), none, .bin .lss (.t 131) (.t 132)⟩] (some [3, 5, 11, 12, 133]))
   (.cond (.t 133) (.skip) (.ext 10)))
   (.seq (.blk 11 (.seq (.dq [(⟨(some 136), none, .mov (.t 3)⟩, []),
    (⟨(some 137), none, .mov (.t 11)⟩, []),
    (⟨(some 138), none, .iad 2 (.t 136) (.t 137)⟩, [0, 1]),
    (⟨(some 139), none, .fad 0 (.t 138)⟩, [0, 1, 2]),
    (⟨(some 140), none, .ld false 1 (.t 139)⟩, [0, 1, 2, 3]),
    (⟨(some 141), none, .mov (.t 3)⟩, []),
    (⟨(some 142), none, .mov (.t 12)⟩, []),
    (⟨(some 143), none, .iad 2 (.t 141) (.t 142)⟩, [5, 6]),
    (⟨(some 144), none, .fad 0 (.t 143)⟩, [5, 6, 7]),
    (⟨(some 145), none, .ld false 1 (.t 144)⟩, [5, 6, 7, 8]),
    (⟨(some 146), none, .bin .eql (.t 140) (.t 145)⟩, [0, 1, 2, 3, 4, 5, 6, 7, 8, 9])] (some [3, 5, 11, 12, 146]))
   (.cond (.t 146) (.seq (.rg [⟨(some 2), none, .mov (.c (.int .i64 8))⟩] (some [2]))
   (.ret)) (.skip))))
   (.rg [⟨(some 134), none, .mov (.t 12)⟩,
    ⟨(some 135), none, .bin .add (.t 134) (.c (.int .i64 1))⟩,
    ⟨(some 12), none, .mov (.t 135)⟩] (some [3, 5, 11, 12])))
def i_ref08_Check_l4 : IR := .loop b_ref08_Check_4
theorem r_ref08_Check_4 {C : Cx} {fr : Fr} {h : List Ob} : evw C i_ref08_Check_l4 fr h = nxt (evw C b_ref08_Check_4 fr h) fun fr h => evw C i_ref08_Check_l4 fr h := w_loop
def b_ref08_Check_5 : IR := .seq (.seq (.rg [⟨(some 125), none, .mov (.t 11)⟩,
    ⟨(some 126), none, .mov (.t 3)⟩,
    ⟨(some 127), none, .len (.t 126)⟩,
    ⟨(some 128), none, .bin .lss (.t 125) (.t 127)⟩] (some [3, 5, 11, 128]))
   (.cond (.t 128) (.skip) (.ext 8)))
   (.seq (.blk 9 (.seq (.rg [⟨(some 12), none, .mov (.c (.int .i64 0))⟩] (some [3, 5, 11, 12]))
   (.blk 10 (i_ref08_Check_l4))))
   (.rg [⟨(some 129), none, .mov (.t 11)⟩,
    ⟨(some 130), none, .bin .add (.t 129) (.c (.int .i64 1))⟩,
    ⟨(some 11), none, .mov (.t 130)⟩] (some [3, 5, 11])))
def i_ref08_Check_l5 : IR := .loop b_ref08_Check_5
theorem r_ref08_Check_5 {C : Cx} {fr : Fr} {h : List Ob} : evw C i_ref08_Check_l5 fr h = nxt (evw C b_ref08_Check_5 fr h) fun fr h => evw C i_ref08_Check_l5 fr h := w_loop
def b_ref08_Check_6 : IR := .seq (.seq (.rg [⟨(some 147), none, .mov (.t 13)⟩,
    ⟨(some 148), none, .mov (.t 3)⟩,
    ⟨(some 149), none, .len (.t 148)⟩,
    ⟨(some 150), none, .bin .lss (.t 147) (.t 149)⟩] (some [3, 5, 13, 150]))
   (.cond (.t 150) (.skip) (.ext 12)))
   (.seq (.blk 13 (.seq (.rg [⟨(some 153), none, .mov (.t 3)⟩,
    ⟨(some 154), none, .mov (.t 13)⟩,
    ⟨(some 155), none, .iad 2 (.t 153) (.t 154)⟩,
    ⟨(some 156), none, .fad 1 (.t 155)⟩,
    ⟨(some 157), none, .ld false 1 (.t 156)⟩,
    ⟨(some 158), none, .call n_ref03_Size [(.t 157)]⟩,
    ⟨(some 159), none, .bin .lss (.t 158) (.c (.int .i64 1))⟩,
    ⟨(some 160), none, .mov (.t 159)⟩,
    ⟨(some 161), (some (160, false)), .mov (.t 3)⟩,
    ⟨(some 162), (some (160, false)), .mov (.t 13)⟩,
    ⟨(some 163), (some (160, false)), .iad 2 (.t 161) (.t 162)⟩,
    ⟨(some 164), (some (160, false)), .fad 1 (.t 163)⟩,
    ⟨(some 165), (some (160, false)), .ld false 1 (.t 164)⟩,
    ⟨(some 166), (some (160, false)), .call n_ref03_Size [(.t 165)]⟩,
    ⟨(some 167), (some (160, false)), .bin .gtr (.t 166) (.c (.int .i64 64))⟩,
    ⟨(some 168), none, .pick (.t 160) (.c (.bool true)) (.t 167)⟩] (some [3, 5, 13, 168]))
   (.cond (.t 168) (.seq (.rg [⟨(some 2), none, .mov (.c (.int .i64 1))⟩] (some [2]))
   (.ret)) (.skip))))
   (.rg [⟨(some 151), none, .mov (.t 13)⟩,
    ⟨(some 152), none, .bin .add (.t 151) (.c (.int .i64 1))⟩,
    ⟨(some 13), none, .mov (.t 152)⟩] (some [3, 5, 13])))
def i_ref08_Check_l6 : IR := .loop b_ref08_Check_6
theorem r_ref08_Check_6 {C : Cx} {fr : Fr} {h : List Ob} : evw C i_ref08_Check_l6 fr h = nxt (evw C b_ref08_Check_6 fr h) fun fr h => evw C i_ref08_Check_l6 fr h := w_loop
def i_ref08_Check : IR := .seq (.rg [⟨(some 1), none, .box (.t 0)⟩,
    ⟨(some 2), none, .mov (.c (.int .i64 0))⟩] (some [1]))
   (.seq (.rg [⟨(some 14), none, .ld true 2 (.t 1)⟩,
    ⟨(some 15), none, .call n_ref08_Vars [(.t 14)]⟩,
    ⟨(some 3), none, .mov (.t 15)⟩] (some [1, 3]))
   (.seq (.seq (.rg [⟨(some 16), none, .fad 0 (.t 1)⟩,
    ⟨(some 17), none, .ld false 1 (.t 16)⟩,
    ⟨(some 18), none, .len (.t 17)⟩,
    ⟨(some 19), none, .bin .gtr (.t 18) (.c (.int .i64 8))⟩,
    ⟨(some 20), none, .mov (.t 19)⟩,
    ⟨(some 21), (some (20, false)), .mov (.t 3)⟩,
    ⟨(some 22), (some (20, false)), .len (.t 21)⟩,
    ⟨(some 23), (some (20, false)), .bin .gtr (.t 22) (.c (.int .i64 16))⟩,
    ⟨(some 24), none, .pick (.t 20) (.c (.bool true)) (.t 23)⟩,
    ⟨(some 25), none, .mov (.t 24)⟩,
    ⟨(some 26), (some (25, false)), .fad 1 (.t 1)⟩,
    ⟨(some 27), (some (25, false)), .ld false 1 (.t 26)⟩,
    ⟨(some 28), (some (25, false)), .len (.t 27)⟩,
    ⟨(some 29), (some (25, false)), .bin .gtr (.t 28) (.c (.int .i64 16))⟩,
    ⟨(some 30), none, .pick (.t 25) (.c (.bool true)) (.t 29)⟩] (some [1, 3, 30]))
   (.cond (.t 30) (.seq (.rg [⟨(some 2), none, .mov (.c (.int .i64 5))⟩] (some [2]))
   (.ret)) (.skip)))
   (.seq (.rg [⟨(some 31), none, .fad 0 (.t 1)⟩,
    ⟨(some 32), none, .ld false 1 (.t 31)⟩,
    ⟨(some 33), none, .len (.t 32)⟩,
    ⟨(some 34), none, .bin .eql (.t 33) (.c (.int .i64 0))⟩,
    ⟨(some 4), none, .mov (.t 34)⟩] (some [1, 3, 4]))
   (.seq (.rg [⟨(some 5), none, .mov (.c (.bool false))⟩] (some [1, 3, 4, 5]))
   (.seq (.rg [⟨(some 35), none, .ld true 2 (.t 1)⟩,
    ⟨(some 36), none, .call n_ref08_Ends [(.t 35)]⟩,
    ⟨(some 6), none, .mov (.t 36)⟩] (some [1, 3, 4, 5, 6]))
   (.seq (.seq (.rg [⟨(some 7), none, .mov (.c (.int .i64 0))⟩] (some [1, 3, 4, 5, 6, 7]))
   (.blk 0 (i_ref08_Check_l1)))
   (.seq (.seq (.rg [⟨(some 9), none, .mov (.c (.int .i64 0))⟩] (some [1, 3, 4, 5, 9]))
   (.blk 4 (i_ref08_Check_l2)))
   (.seq (.seq (.rg [⟨(some 111), none, .mov (.t 4)⟩] (some [3, 5, 111]))
   (.cond (.t 111) (.seq (.rg [⟨(some 2), none, .mov (.c (.int .i64 2))⟩] (some [2]))
   (.ret)) (.skip)))
   (.seq (.seq (.rg [⟨(some 10), none, .mov (.c (.int .i64 0))⟩] (some [3, 5, 10]))
   (.blk 6 (i_ref08_Check_l3)))
   (.seq (.seq (.rg [⟨(some 11), none, .mov (.c (.int .i64 0))⟩] (some [3, 5, 11]))
   (.blk 8 (i_ref08_Check_l5)))
   (.seq (.seq (.rg [⟨(some 13), none, .mov (.c (.int .i64 0))⟩] (some [3, 5, 13]))
   (.blk 12 (i_ref08_Check_l6)))
   (.seq (.seq (.rg [⟨(some 169), none, .mov (.t 5)⟩] (some [169]))
   (.cond (.t 169) (.seq (.rg [⟨(some 2), none, .mov (.c (.int .i64 12))⟩] (some [2]))
   (.ret)) (.skip)))
   (.seq (.rg [⟨(some 2), none, .mov (.c (.int .i64 0))⟩] (some [2]))
   (.ret))))))))))))))
def F_ref08_Check : F := ⟨i_ref08_Check, [(2, none)], false⟩
/-- stratagem/model.Name -/
def i_model_Name : IR := .seq (.rg [⟨(some 2), none, .mov (.c (.bool false))⟩] (some [0]))
   (.seq (.seq (.rg [⟨(some 3), none, .mov (.t 0)⟩,
    ⟨(some 4), none, .bin .eql (.t 3) (.c (.str []))⟩,
    ⟨(some 5), none, .mov (.t 4)⟩,
    ⟨(some 6), (some (5, false)), .mov (.t 0)⟩,
    ⟨(some 7), (some (5, false)), .slen (.t 6)⟩,
    ⟨(some 8), (some (5, false)), .bin .gtr (.t 7) (.c (.int .i64 12))⟩,
    ⟨(some 9), none, .pick (.t 5) (.c (.bool true)) (.t 8)⟩,
    ⟨(some 10), none, .mov (.t 9)⟩,
    ⟨(some 11), (some (10, false)), .mov (.t 0)⟩,
    ⟨(some 12), (some (10, false)), .ixs (.t 11) (.c (.int .i64 0))⟩,
    ⟨(some 13), (some (10, false)), .bin .lss (.t 12) (.c (.int .u8 97))⟩,
    ⟨(some 14), none, .pick (.t 10) (.c (.bool true)) (.t 13)⟩,
    ⟨(some 15), none, .mov (.t 14)⟩,
    ⟨(some 16), (some (15, false)), .mov (.t 0)⟩,
    ⟨(some 17), (some (15, false)), .ixs (.t 16) (.c (.int .i64 0))⟩,
    ⟨(some 18), (some (15, false)), .bin .gtr (.t 17) (.c (.int .u8 122))⟩,
    ⟨(some 19), none, .pick (.t 15) (.c (.bool true)) (.t 18)⟩,
    ⟨(some 20), none, .mov (.t 19)⟩,
    ⟨(some 21), (some (20, false)), .mov (.t 0)⟩,
    ⟨(some 22), (some (20, false)), .bin .add (.c (.str [32])) (.t 21)⟩,
    ⟨(some 23), (some (20, false)), .bin .add (.t 22) (.c (.str [32]))⟩,
    ⟨(some 24), (some (20, false)), .call n_strings_Contains [(.c (.str [32, 101, 120, 105, 115, 116, 115, 32, 102, 111, 114, 97, 108, 108, 32, 105, 110, 32, 119, 104, 101, 114, 101, 32, 97, 110, 100, 32, 103, 111, 97, 108, 32, 116, 114, 117, 101, 32, 112, 114, 111, 100, 117, 99, 116, 32, 105, 102, 102, 32, 101, 108, 101, 109, 101, 110, 116, 32, 100, 105, 102, 102, 101, 114, 101, 110, 116, 32, 116, 97, 98, 108, 101, 32])), (.t 23)]⟩,
    ⟨(some 25), none, .pick (.t 20) (.c (.bool true)) (.t 24)⟩] (some [0, 25]))
   (.cond (.t 25) (.seq (.rg [⟨(some 2), none, .mov (.c (.bool false))⟩] (some [2]))
   (.ret)) (.skip)))
   (.seq (.rg [⟨(some 26), none, .mov (.t 0)⟩,
    ⟨(some 27), none, .call n_strings_Trim [(.t 26), (.c (.str [97, 98, 99, 100, 101, 102, 103, 104, 105, 106, 107, 108, 109, 110, 111, 112, 113, 114, 115, 116, 117, 118, 119, 120, 121, 122, 48, 49, 50, 51, 52, 53, 54, 55, 56, 57, 95]))]⟩,
    ⟨(some 28), none, .bin .eql (.t 27) (.c (.str []))⟩,
    ⟨(some 2), none, .mov (.t 28)⟩] (some [2]))
   (.ret)))
def F_model_Name : F := ⟨i_model_Name, [(2, none)], false⟩
/-- stratagem/stratagemref08.Name -/
def b_ref08_Name_0 : IR := .seq (.seq (.rg [⟨(some 8), none, .mov (.t 4)⟩,
    ⟨(some 9), none, .mov (.t 3)⟩,
    ⟨(some 10), none, .len (.t 9)⟩,
    ⟨(some 11), none, .bin .lss (.t 8) (.t 10)⟩] (some [0, 3, 4, 11]))
   (.cond (.t 11) (.skip) (.ext 0)))
   (.seq (.blk 1 (.seq (.rg [⟨(some 14), none, .mov (.t 0)⟩,
    ⟨(some 15), none, .mov (.t 3)⟩,
    ⟨(some 16), none, .mov (.t 4)⟩,
    ⟨(some 17), none, .iad 1 (.t 15) (.t 16)⟩,
    ⟨(some 18), none, .ld false 1 (.t 17)⟩,
    ⟨(some 19), none, .bin .eql (.t 14) (.t 18)⟩] (some [0, 3, 4, 19]))
   (.cond (.t 19) (.seq (.rg [⟨(some 2), none, .mov (.c (.bool false))⟩] (some [2]))
   (.ret)) (.skip))))
   (.rg [⟨(some 12), none, .mov (.t 4)⟩,
    ⟨(some 13), none, .bin .add (.t 12) (.c (.int .i64 1))⟩,
    ⟨(some 4), none, .mov (.t 13)⟩] (some [0, 3, 4])))
def i_ref08_Name_l0 : IR := .loop b_ref08_Name_0
theorem r_ref08_Name_0 {C : Cx} {fr : Fr} {h : List Ob} : evw C i_ref08_Name_l0 fr h = nxt (evw C b_ref08_Name_0 fr h) fun fr h => evw C i_ref08_Name_l0 fr h := w_loop
def b_ref08_Name_1 : IR := .seq (.seq (.rg [⟨(some 20), none, .mov (.t 5)⟩,
    ⟨(some 21), none, .mov (.t 0)⟩,
    ⟨(some 22), none, .slen (.t 21)⟩,
    ⟨(some 23), none, .bin .lss (.t 20) (.t 22)⟩] (some [0, 5, 23]))
   (.cond (.t 23) (.skip) (.ext 2)))
   (.seq (.blk 3 (.seq (.rg [⟨(some 26), none, .mov (.t 0)⟩,
    ⟨(some 27), none, .mov (.t 5)⟩,
    ⟨(some 28), none, .ixs (.t 26) (.t 27)⟩,
    ⟨(some 29), none, .bin .geq (.t 28) (.c (.int .u8 97))⟩,
    ⟨(some 30), none, .mov (.t 29)⟩,
    ⟨(some 31), (some (30, true)), .mov (.t 0)⟩,
    ⟨(some 32), (some (30, true)), .mov (.t 5)⟩,
    ⟨(some 33), (some (30, true)), .ixs (.t 31) (.t 32)⟩,
    ⟨(some 34), (some (30, true)), .bin .leq (.t 33) (.c (.int .u8 122))⟩,
    ⟨(some 35), none, .pick (.t 30) (.t 34) (.c (.bool false))⟩,
    ⟨(some 6), none, .mov (.t 35)⟩] (some [0, 5, 6]))
   (.seq (.rg [⟨(some 36), none, .mov (.t 6)⟩,
    ⟨(some 37), none, .un .not (.t 36)⟩,
    ⟨(some 38), none, .mov (.t 37)⟩,
    ⟨(some 39), (some (38, true)), .mov (.t 5)⟩,
    ⟨(some 40), (some (38, true)), .bin .eql (.t 39) (.c (.int .i64 0))⟩,
    ⟨(some 41), (some (38, true)), .mov (.t 40)⟩,
    ⟨(some 42), (some (41, false)), .mov (.t 0)⟩,
    ⟨(some 43), (some (41, false)), .mov (.t 5)⟩,
    ⟨(some 44), (some (41, false)), .ixs (.t 42) (.t 43)⟩,
    ⟨(some 45), (some (41, false)), .bin .neq (.t 44) (.c (.int .u8 95))⟩,
    ⟨(some 46), (some (41, false)), .mov (.t 45)⟩,
    ⟨(some 47), (some (46, true)), .mov (.t 0)⟩,
    ⟨(some 48), (some (46, true)), .mov (.t 5)⟩,
    ⟨(some 49), (some (46, true)), .ixs (.t 47) (.t 48)⟩,
    ⟨(some 50), (some (46, true)), .bin .lss (.t 49) (.c (.int .u8 48))⟩,
    ⟨(some 51), (some (46, true)), .mov (.t 50)⟩,
    ⟨(some 52), (some (51, false)), .mov (.t 0)⟩,
    ⟨(some 53), (some (51, false)), .mov (.t 5)⟩,
    ⟨(some 54), (some (51, false)), .ixs (.t 52) (.t 53)⟩,
    ⟨(some 55), (some (51, false)), .bin .gtr (.t 54) (.c (.int .u8 57))⟩,
    ⟨(some 56), (some (46, true)), .pick (.t 51) (.c (.bool true)) (.t 55)⟩,
    ⟨(some 57), (some (41, false)), .pick (.t 46) (.t 56) (.c (.bool false))⟩,
    ⟨(some 58), (some (38, true)), .pick (.t 41) (.c (.bool true)) (.t 57)⟩,
    ⟨(some 59), none, .pick (.t 38) (.t 58) (.c (.bool false))⟩] (some [0, 5, 59]))
   (.cond (.t 59) (.seq (.rg [⟨(some 2), none, .mov (.c (.bool false))⟩] (some [2]))
   (.ret)) (.skip)))))
   (.rg [⟨(some 24), none, .mov (.t 5)⟩,
    ⟨(some 25), none, .bin .add (.t 24) (.c (.int .i64 1))⟩,
    ⟨(some 5), none, .mov (.t 25)⟩] (some [0, 5])))
def i_ref08_Name_l1 : IR := .loop b_ref08_Name_1
theorem r_ref08_Name_1 {C : Cx} {fr : Fr} {h : List Ob} : evw C i_ref08_Name_l1 fr h = nxt (evw C b_ref08_Name_1 fr h) fun fr h => evw C i_ref08_Name_l1 fr h := w_loop
def i_ref08_Name : IR := .seq (.rg [⟨(some 2), none, .mov (.c (.bool false))⟩] (some [0]))
   (.seq (.rg [⟨(some 7), none, .bsl (.str []) 12 [(0, (.c (.str [101, 120, 105, 115, 116, 115]))), (1, (.c (.str [102, 111, 114, 97, 108, 108]))), (2, (.c (.str [105, 110]))), (3, (.c (.str [119, 104, 101, 114, 101]))), (4, (.c (.str [97, 110, 100]))), (5, (.c (.str [103, 111, 97, 108]))), (6, (.c (.str [116, 114, 117, 101]))), (7, (.c (.str [112, 114, 111, 100, 117, 99, 116]))), (8, (.c (.str [105, 102, 102]))), (9, (.c (.str [101, 108, 101, 109, 101, 110, 116]))), (10, (.c (.str [100, 105, 102, 102, 101, 114, 101, 110, 116]))), (11, (.c (.str [116, 97, 98, 108, 101])))]⟩,
    ⟨(some 3), none, .mov (.t 7)⟩] (some [0, 3]))
   (.seq (.seq (.rg [⟨(some 4), none, .mov (.c (.int .i64 0))⟩] (some [0, 3, 4]))
   (.blk 0 (i_ref08_Name_l0)))
   (.seq (.seq (.rg [⟨(some 5), none, .mov (.c (.int .i64 0))⟩] (some [0, 5]))
   (.blk 2 (i_ref08_Name_l1)))
   (.seq (.rg [⟨(some 60), none, .mov (.t 0)⟩,
    ⟨(some 61), none, .slen (.t 60)⟩,
    ⟨(some 62), none, .bin .geq (.t 61) (.c (.int .i64 1))⟩,
    ⟨(some 63), none, .mov (.t 62)⟩,
    ⟨(some 64), (some (63, true)), .mov (.t 0)⟩,
    ⟨(some 65), (some (63, true)), .slen (.t 64)⟩,
    ⟨(some 66), (some (63, true)), .bin .leq (.t 65) (.c (.int .i64 12))⟩,
    ⟨(some 67), none, .pick (.t 63) (.t 66) (.c (.bool false))⟩,
    ⟨(some 2), none, .mov (.t 67)⟩] (some [2]))
   (.ret)))))
def F_ref08_Name : F := ⟨i_ref08_Name, [(2, none)], false⟩
/-- stratagem/model.Right -/
def i_model_Right : IR := .seq (.rg [⟨(some 2), none, .box (.t 0)⟩,
    ⟨(some 4), none, .mov (.c (.bool false))⟩] (some [1, 2]))
   (.seq (.rg [⟨(some 6), none, .bsl (.nilf) 6 [(0, (.c (.fn (.func n_model_looker_linear) [] []))), (1, (.c (.fn (.func n_model_looker_product) [] []))), (2, (.c (.fn (.func n_model_looker_iff) [] []))), (3, (.c (.fn (.func n_model_looker_element) [] []))), (4, (.c (.fn (.func n_model_looker_differ) [] []))), (5, (.c (.fn (.func n_model_looker_table) [] [])))]⟩,
    ⟨(some 5), none, .mov (.t 6)⟩] (some [1, 2, 5]))
   (.seq (.dq [(⟨(some 7), none, .fad 0 (.t 2)⟩, []),
    (⟨(some 8), none, .ld false 1 (.t 7)⟩, [0]),
    (⟨(some 9), none, .bin .geq (.t 8) (.c (.int .i64 1))⟩, [0, 1]),
    (⟨(some 10), none, .mov (.t 9)⟩, [0, 1, 2]),
    (⟨(some 11), (some (10, true)), .fad 0 (.t 2)⟩, [0, 1, 2, 3]),
    (⟨(some 12), (some (10, true)), .ld false 1 (.t 11)⟩, [0, 1, 2, 3, 4]),
    (⟨(some 13), (some (10, true)), .mov (.t 5)⟩, [0, 1, 2, 3]),
    (⟨(some 14), (some (10, true)), .len (.t 13)⟩, [0, 1, 2, 3, 6]),
    (⟨(some 15), (some (10, true)), .bin .leq (.t 12) (.t 14)⟩, [0, 1, 2, 3, 4, 5, 6, 7]),
    (⟨(some 16), none, .pick (.t 10) (.t 15) (.c (.bool false))⟩, [0, 1, 2, 3, 4, 5, 6, 7, 8]),
    (⟨(some 17), none, .mov (.t 16)⟩, [0, 1, 2, 3, 4, 5, 6, 7, 8, 9]),
    (⟨(some 18), (some (17, true)), .mov (.t 5)⟩, [0, 1, 2, 3, 4, 5, 6, 7, 8, 9, 10]),
    (⟨(some 19), (some (17, true)), .fad 0 (.t 2)⟩, [0, 1, 2, 3, 4, 5, 6, 7, 8, 9, 10]),
    (⟨(some 20), (some (17, true)), .ld false 1 (.t 19)⟩, [0, 1, 2, 3, 4, 5, 6, 7, 8, 9, 10, 12]),
    (⟨(some 21), (some (17, true)), .bin .sub (.t 20) (.c (.int .i64 1))⟩, [0, 1, 2, 3, 4, 5, 6, 7, 8, 9, 10, 12, 13]),
    (⟨(some 22), (some (17, true)), .iad 1 (.t 18) (.t 21)⟩, [0, 1, 2, 3, 4, 5, 6, 7, 8, 9, 10, 11, 12, 13, 14]),
    (⟨(some 23), (some (17, true)), .ld false 1 (.t 22)⟩, [0, 1, 2, 3, 4, 5, 6, 7, 8, 9, 10, 11, 12, 13, 14, 15]),
    (⟨(some 24), (some (17, true)), .ld true 6 (.t 2)⟩, [0, 1, 2, 3, 4, 5, 6, 7, 8, 9, 10]),
    (⟨(some 25), (some (17, true)), .mov (.t 1)⟩, [0, 1, 2, 3, 4, 5, 6, 7, 8, 9, 10]),
    (⟨(some 26), (some (17, true)), .bld [.int .i64 0, .nsl 1, .nsl 1, .int .i64 0, .int .i64 0, .nsl 1, .int .i64 0] [(0, 6, (.t 24)), (6, 1, (.t 25))]⟩, [0, 1, 2, 3, 4, 5, 6, 7, 8, 9, 10, 17, 18]),
    (⟨(some 27), (some (17, true)), .callv (.t 23) [(.t 26)]⟩, [0, 1, 2, 3, 4, 5, 6, 7, 8, 9, 10, 11, 12, 13, 14, 15, 16, 17, 18, 19]),
    (⟨(some 28), none, .pick (.t 17) (.t 27) (.c (.bool false))⟩, [0, 1, 2, 3, 4, 5, 6, 7, 8, 9, 10, 11, 12, 13, 14, 15, 16, 17, 18, 19, 20]),
    (⟨(some 4), none, .mov (.t 28)⟩, [0, 1, 2, 3, 4, 5, 6, 7, 8, 9, 10, 11, 12, 13, 14, 15, 16, 17, 18, 19, 20, 21])] (some [4]))
   (.ret)))
def F_model_Right : F := ⟨i_model_Right, [(4, none)], false⟩
/-- stratagem/stratagemref08.Right -/
def b_ref08_Right_0 : IR := .seq (.seq (.rg [⟨(some 33), none, .mov (.t 7)⟩,
    ⟨(some 34), none, .mov (.t 6)⟩,
    ⟨(some 35), none, .bin .lss (.t 33) (.t 34)⟩] (some [1, 2, 5, 6, 7, 35]))
   (.cond (.t 35) (.skip) (.ext 2)))
   (.seq (.blk 3 (.seq (.dq [(⟨(some 38), none, .fad 1 (.t 2)⟩, []),
    (⟨(some 39), none, .ld false 1 (.t 38)⟩, [0]),
    (⟨(some 40), none, .mov (.t 7)⟩, []),
    (⟨(some 41), none, .iad 1 (.t 39) (.t 40)⟩, [0, 1, 2]),
    (⟨(some 42), none, .ld false 1 (.t 41)⟩, [0, 1, 2, 3]),
    (⟨(some 43), none, .fad 1 (.t 2)⟩, []),
    (⟨(some 44), none, .ld false 1 (.t 43)⟩, [5]),
    (⟨(some 45), none, .mov (.t 6)⟩, []),
    (⟨(some 46), none, .iad 1 (.t 44) (.t 45)⟩, [5, 6, 7]),
    (⟨(some 47), none, .ld false 1 (.t 46)⟩, [5, 6, 7, 8]),
    (⟨(some 48), none, .bin .eql (.t 42) (.t 47)⟩, [0, 1, 2, 3, 4, 5, 6, 7, 8, 9])] (some [1, 2, 5, 6, 7, 48]))
   (.cond (.t 48) (.seq (.rg [⟨(some 4), none, .mov (.c (.bool false))⟩] (some [4]))
   (.ret)) (.skip))))
   (.rg [⟨(some 36), none, .mov (.t 7)⟩,
    ⟨(some 37), none, .bin .add (.t 36) (.c (.int .i64 1))⟩,
    ⟨(some 7), none, .mov (.t 37)⟩] (some [1, 2, 5, 6, 7])))
def i_ref08_Right_l0 : IR := .loop b_ref08_Right_0
theorem r_ref08_Right_0 {C : Cx} {fr : Fr} {h : List Ob} : evw C i_ref08_Right_l0 fr h = nxt (evw C b_ref08_Right_0 fr h) fun fr h => evw C i_ref08_Right_l0 fr h := w_loop
def b_ref08_Right_1 : IR := .seq (.seq (.rg [⟨(some 13), none, .mov (.t 6)⟩,
    ⟨(some 14), none, .mov (.t 5)⟩,
    ⟨(some 15), none, .bin .lss (.t 13) (.t 14)⟩] (some [1, 2, 5, 6, 15]))
   (.cond (.t 15) (.skip) (.ext 0)))
   (.seq (.blk 1 (.seq (.seq (.rg [⟨(some 18), none, .fad 1 (.t 2)⟩,
    ⟨(some 19), none, .ld false 1 (.t 18)⟩,
    ⟨(some 20), none, .mov (.t 6)⟩,
    ⟨(some 21), none, .iad 1 (.t 19) (.t 20)⟩,
    ⟨(some 22), none, .ld false 1 (.t 21)⟩,
    ⟨(some 23), none, .bin .lss (.t 22) (.c (.int .i64 0))⟩,
    ⟨(some 24), none, .mov (.t 23)⟩,
    ⟨(some 25), (some (24, false)), .fad 1 (.t 2)⟩,
    ⟨(some 26), (some (24, false)), .ld false 1 (.t 25)⟩,
    ⟨(some 27), (some (24, false)), .mov (.t 6)⟩,
    ⟨(some 28), (some (24, false)), .iad 1 (.t 26) (.t 27)⟩,
    ⟨(some 29), (some (24, false)), .ld false 1 (.t 28)⟩,
    ⟨(some 30), (some (24, false)), .mov (.t 1)⟩,
    ⟨(some 31), (some (24, false)), .bin .geq (.t 29) (.t 30)⟩,
    ⟨(some 32), none, .pick (.t 24) (.c (.bool true)) (.t 31)⟩] (some [1, 2, 5, 6, 32]))
   (.cond (.t 32) (.seq (.rg [⟨(some 4), none, .mov (.c (.bool false))⟩] (some [4]))
   (.ret)) (.skip)))
   (.seq (.rg [⟨(some 7), none, .mov (.c (.int .i64 0))⟩] (some [1, 2, 5, 6, 7]))
   (.blk 2 (i_ref08_Right_l0)))))
   (.rg [⟨(some 16), none, .mov (.t 6)⟩,
    ⟨(some 17), none, .bin .add (.t 16) (.c (.int .i64 1))⟩,
    ⟨(some 6), none, .mov (.t 17)⟩] (some [1, 2, 5, 6])))
def i_ref08_Right_l1 : IR := .loop b_ref08_Right_1
theorem r_ref08_Right_1 {C : Cx} {fr : Fr} {h : List Ob} : evw C i_ref08_Right_l1 fr h = nxt (evw C b_ref08_Right_1 fr h) fun fr h => evw C i_ref08_Right_l1 fr h := w_loop
def b_ref08_Right_2 : IR := .seq (.seq (.rg [⟨(some 61), none, .mov (.t 9)⟩,
    ⟨(some 62), none, .fad 2 (.t 2)⟩,
    ⟨(some 63), none, .ld false 1 (.t 62)⟩,
    ⟨(some 64), none, .len (.t 63)⟩,
    ⟨(some 65), none, .bin .lss (.t 61) (.t 64)⟩] (some [2, 5, 8, 9, 65]))
   (.cond (.t 65) (.skip) (.ext 4)))
   (.seq (.blk 5 (.seq (.rg [⟨(some 68), none, .fad 2 (.t 2)⟩,
    ⟨(some 69), none, .ld false 1 (.t 68)⟩,
    ⟨(some 70), none, .mov (.t 9)⟩,
    ⟨(some 71), none, .iad 1 (.t 69) (.t 70)⟩,
    ⟨(some 72), none, .ld false 1 (.t 71)⟩,
    ⟨(some 73), none, .bin .eql (.t 72) (.c (.int .i64 0))⟩] (some [2, 5, 8, 9, 73]))
   (.cond (.t 73) (.seq (.rg [⟨(some 4), none, .mov (.c (.bool false))⟩] (some [4]))
   (.ret)) (.skip))))
   (.rg [⟨(some 66), none, .mov (.t 9)⟩,
    ⟨(some 67), none, .bin .add (.t 66) (.c (.int .i64 1))⟩,
    ⟨(some 9), none, .mov (.t 67)⟩] (some [2, 5, 8, 9])))
def i_ref08_Right_l2 : IR := .loop b_ref08_Right_2
theorem r_ref08_Right_2 {C : Cx} {fr : Fr} {h : List Ob} : evw C i_ref08_Right_l2 fr h = nxt (evw C b_ref08_Right_2 fr h) fun fr h => evw C i_ref08_Right_l2 fr h := w_loop
def i_ref08_Right : IR := .seq (.rg [⟨(some 2), none, .box (.t 0)⟩,
    ⟨(some 4), none, .mov (.c (.bool false))⟩] (some [1, 2]))
   (.seq (.rg [⟨(some 10), none, .fad 1 (.t 2)⟩,
    ⟨(some 11), none, .ld false 1 (.t 10)⟩,
    ⟨(some 12), none, .len (.t 11)⟩,
    ⟨(some 5), none, .mov (.t 12)⟩] (some [1, 2, 5]))
   (.seq (.seq (.rg [⟨(some 6), none, .mov (.c (.int .i64 0))⟩] (some [1, 2, 5, 6]))
   (.blk 0 (i_ref08_Right_l1)))
   (.seq (.seq (.rg [⟨(some 49), none, .fad 0 (.t 2)⟩,
    ⟨(some 50), none, .ld false 1 (.t 49)⟩,
    ⟨(some 51), none, .bin .eql (.t 50) (.c (.int .i64 1))⟩,
    ⟨(some 52), none, .mov (.t 51)⟩,
    ⟨(some 53), (some (52, false)), .fad 0 (.t 2)⟩,
    ⟨(some 54), (some (52, false)), .ld false 1 (.t 53)⟩,
    ⟨(some 55), (some (52, false)), .bin .eql (.t 54) (.c (.int .i64 3))⟩,
    ⟨(some 56), none, .pick (.t 52) (.c (.bool true)) (.t 55)⟩] (some [2, 5, 56]))
   (.cond (.t 56) (.seq (.rg [⟨(some 57), none, .fad 0 (.t 2)⟩,
    ⟨(some 58), none, .ld false 1 (.t 57)⟩,
    ⟨(some 59), none, .bin .sub (.t 58) (.c (.int .i64 1))⟩,
    ⟨(some 60), none, .bin .quo (.t 59) (.c (.int .i64 2))⟩,
    ⟨(some 8), none, .mov (.t 60)⟩] (some [2, 5, 8]))
   (.seq (.seq (.rg [⟨(some 9), none, .mov (.c (.int .i64 0))⟩] (some [2, 5, 8, 9]))
   (.blk 4 (i_ref08_Right_l2)))
   (.seq (.rg [⟨(some 74), none, .mov (.t 5)⟩,
    ⟨(some 75), none, .mov (.t 8)⟩,
    ⟨(some 76), none, .bin .sub (.t 74) (.t 75)⟩,
    ⟨(some 77), none, .bin .geq (.t 76) (.c (.int .i64 1))⟩,
    ⟨(some 78), none, .mov (.t 77)⟩,
    ⟨(some 79), (some (78, true)), .mov (.t 5)⟩,
    ⟨(some 80), (some (78, true)), .mov (.t 8)⟩,
    ⟨(some 81), (some (78, true)), .bin .sub (.t 79) (.t 80)⟩,
    ⟨(some 82), (some (78, true)), .bin .leq (.t 81) (.c (.int .i64 8))⟩,
    ⟨(some 83), none, .pick (.t 78) (.t 82) (.c (.bool false))⟩,
    ⟨(some 84), none, .mov (.t 83)⟩,
    ⟨(some 85), (some (84, true)), .fad 2 (.t 2)⟩,
    ⟨(some 86), (some (84, true)), .ld false 1 (.t 85)⟩,
    ⟨(some 87), (some (84, true)), .len (.t 86)⟩,
    ⟨(some 88), (some (84, true)), .mov (.t 5)⟩,
    ⟨(some 89), (some (84, true)), .mov (.t 8)⟩,
    ⟨(some 90), (some (84, true)), .bin .sub (.t 88) (.t 89)⟩,
    ⟨(some 91), (some (84, true)), .bin .eql (.t 87) (.t 90)⟩,
    ⟨(some 92), none, .pick (.t 84) (.t 91) (.c (.bool false))⟩,
    ⟨(some 93), none, .mov (.t 92)⟩,
    ⟨(some 94), (some (93, true)), .fad 2 (.t 2)⟩,
    ⟨(some 95), (some (93, true)), .ld false 1 (.t 94)⟩,
    ⟨(some 96), (some (93, true)), .call n_ref08_all [(.t 95), (.c (.int .i64 1048576))]⟩,
    ⟨(some 97), none, .pick (.t 93) (.t 96) (.c (.bool false))⟩,
    ⟨(some 98), none, .mov (.t 97)⟩,
    ⟨(some 99), (some (98, true)), .fad 3 (.t 2)⟩,
    ⟨(some 100), (some (98, true)), .ld false 1 (.t 99)⟩,
    ⟨(some 101), (some (98, true)), .bin .geq (.t 100) (.c (.int .i64 0))⟩,
    ⟨(some 102), none, .pick (.t 98) (.t 101) (.c (.bool false))⟩,
    ⟨(some 103), none, .mov (.t 102)⟩,
    ⟨(some 104), (some (103, true)), .fad 3 (.t 2)⟩,
    ⟨(some 105), (some (103, true)), .ld false 1 (.t 104)⟩,
    ⟨(some 106), (some (103, true)), .bin .leq (.t 105) (.c (.int .i64 5))⟩,
    ⟨(some 107), none, .pick (.t 103) (.t 106) (.c (.bool false))⟩,
    ⟨(some 108), none, .mov (.t 107)⟩,
    ⟨(some 109), (some (108, true)), .fad 4 (.t 2)⟩,
    ⟨(some 110), (some (108, true)), .ld false 1 (.t 109)⟩,
    ⟨(some 111), (some (108, true)), .bsf (.int .i64 0) 1 [(0, (.t 110))]⟩,
    ⟨(some 112), (some (108, true)), .call n_ref08_all [(.t 111), (.c (.int .i64 1099511627776))]⟩,
    ⟨(some 113), none, .pick (.t 108) (.t 112) (.c (.bool false))⟩,
    ⟨(some 114), none, .mov (.t 113)⟩,
    ⟨(some 115), (some (114, true)), .fad 5 (.t 2)⟩,
    ⟨(some 116), (some (114, true)), .ld false 1 (.t 115)⟩,
    ⟨(some 117), (some (114, true)), .len (.t 116)⟩,
    ⟨(some 118), (some (114, true)), .bin .eql (.t 117) (.c (.int .i64 0))⟩,
    ⟨(some 119), none, .pick (.t 114) (.t 118) (.c (.bool false))⟩,
    ⟨(some 4), none, .mov (.t 119)⟩] (some [4]))
   (.ret)))) (.skip)))
   (.seq (.seq (.rg [⟨(some 120), none, .fad 2 (.t 2)⟩,
    ⟨(some 121), none, .ld false 1 (.t 120)⟩,
    ⟨(some 122), none, .len (.t 121)⟩,
    ⟨(some 123), none, .bin .gtr (.t 122) (.c (.int .i64 0))⟩,
    ⟨(some 124), none, .mov (.t 123)⟩,
    ⟨(some 125), (some (124, false)), .fad 3 (.t 2)⟩,
    ⟨(some 126), (some (124, false)), .ld false 1 (.t 125)⟩,
    ⟨(some 127), (some (124, false)), .bin .neq (.t 126) (.c (.int .i64 0))⟩,
    ⟨(some 128), none, .pick (.t 124) (.c (.bool true)) (.t 127)⟩,
    ⟨(some 129), none, .mov (.t 128)⟩,
    ⟨(some 130), (some (129, false)), .fad 4 (.t 2)⟩,
    ⟨(some 131), (some (129, false)), .ld false 1 (.t 130)⟩,
    ⟨(some 132), (some (129, false)), .bin .neq (.t 131) (.c (.int .i64 0))⟩,
    ⟨(some 133), none, .pick (.t 129) (.c (.bool true)) (.t 132)⟩,
    ⟨(some 134), none, .mov (.t 133)⟩,
    ⟨(some 135), (some (134, false)), .fad 5 (.t 2)⟩,
    ⟨(some 136), (some (134, false)), .ld false 1 (.t 135)⟩,
    ⟨(some 137), (some (134, false)), .call n_ref08_all [(.t 136), (.c (.int .i64 1048576))]⟩,
    ⟨(some 138), (some (134, false)), .un .not (.t 137)⟩,
    ⟨(some 139), none, .pick (.t 134) (.c (.bool true)) (.t 138)⟩,
    ⟨(some 140), none, .mov (.t 139)⟩,
    ⟨(some 141), (some (140, false)), .fad 5 (.t 2)⟩,
    ⟨(some 142), (some (140, false)), .ld false 1 (.t 141)⟩,
    ⟨(some 143), (some (140, false)), .len (.t 142)⟩,
    ⟨(some 144), (some (140, false)), .bin .gtr (.t 143) (.c (.int .i64 96))⟩,
    ⟨(some 145), none, .pick (.t 140) (.c (.bool true)) (.t 144)⟩] (some [2, 5, 145]))
   (.cond (.t 145) (.seq (.rg [⟨(some 4), none, .mov (.c (.bool false))⟩] (some [4]))
   (.ret)) (.skip)))
   (.seq (.seq (.rg [⟨(some 146), none, .fad 0 (.t 2)⟩,
    ⟨(some 147), none, .ld false 1 (.t 146)⟩] (some [2, 5, 147]))
   (.blk 6 (.seq (.rg [⟨(some 149), none, .bin .eql (.t 147) (.c (.int .i64 2))⟩,
    ⟨(some 148), none, .mov (.t 149)⟩] (some [2, 5, 147, 148]))
   (.cond (.t 148) (.seq (.rg [⟨(some 150), none, .mov (.t 5)⟩,
    ⟨(some 151), none, .bin .eql (.t 150) (.c (.int .i64 3))⟩,
    ⟨(some 152), none, .mov (.t 151)⟩,
    ⟨(some 153), (some (152, true)), .fad 5 (.t 2)⟩,
    ⟨(some 154), (some (152, true)), .ld false 1 (.t 153)⟩,
    ⟨(some 155), (some (152, true)), .len (.t 154)⟩,
    ⟨(some 156), (some (152, true)), .bin .eql (.t 155) (.c (.int .i64 0))⟩,
    ⟨(some 157), none, .pick (.t 152) (.t 156) (.c (.bool false))⟩,
    ⟨(some 4), none, .mov (.t 157)⟩] (some [4]))
   (.ret)) (.seq (.rg [⟨(some 159), none, .bin .eql (.t 147) (.c (.int .i64 4))⟩,
    ⟨(some 158), none, .mov (.t 159)⟩] (some [2, 5, 147, 158]))
   (.cond (.t 158) (.seq (.rg [⟨(some 160), none, .mov (.t 5)⟩,
    ⟨(some 161), none, .bin .eql (.t 160) (.c (.int .i64 2))⟩,
    ⟨(some 162), none, .mov (.t 161)⟩,
    ⟨(some 163), (some (162, true)), .fad 5 (.t 2)⟩,
    ⟨(some 164), (some (162, true)), .ld false 1 (.t 163)⟩,
    ⟨(some 165), (some (162, true)), .len (.t 164)⟩,
    ⟨(some 166), (some (162, true)), .bin .geq (.t 165) (.c (.int .i64 1))⟩,
    ⟨(some 167), none, .pick (.t 162) (.t 166) (.c (.bool false))⟩,
    ⟨(some 4), none, .mov (.t 167)⟩] (some [4]))
   (.ret)) (.seq (.rg [⟨(some 169), none, .bin .eql (.t 147) (.c (.int .i64 5))⟩,
    ⟨(some 168), none, .mov (.t 169)⟩] (some [2, 5, 147, 168]))
   (.cond (.t 168) (.seq (.rg [⟨(some 170), none, .mov (.t 5)⟩,
    ⟨(some 171), none, .bin .geq (.t 170) (.c (.int .i64 2))⟩,
    ⟨(some 172), none, .mov (.t 171)⟩,
    ⟨(some 173), (some (172, true)), .mov (.t 5)⟩,
    ⟨(some 174), (some (172, true)), .bin .leq (.t 173) (.c (.int .i64 8))⟩,
    ⟨(some 175), none, .pick (.t 172) (.t 174) (.c (.bool false))⟩,
    ⟨(some 176), none, .mov (.t 175)⟩,
    ⟨(some 177), (some (176, true)), .fad 5 (.t 2)⟩,
    ⟨(some 178), (some (176, true)), .ld false 1 (.t 177)⟩,
    ⟨(some 179), (some (176, true)), .len (.t 178)⟩,
    ⟨(some 180), (some (176, true)), .bin .eql (.t 179) (.c (.int .i64 0))⟩,
    ⟨(some 181), none, .pick (.t 176) (.t 180) (.c (.bool false))⟩,
    ⟨(some 4), none, .mov (.t 181)⟩] (some [4]))
   (.ret)) (.seq (.rg [⟨(some 183), none, .bin .eql (.t 147) (.c (.int .i64 6))⟩,
    ⟨(some 182), none, .mov (.t 183)⟩] (some [2, 5, 182]))
   (.cond (.t 182) (.seq (.rg [⟨(some 184), none, .mov (.t 5)⟩,
    ⟨(some 185), none, .bin .geq (.t 184) (.c (.int .i64 1))⟩,
    ⟨(some 186), none, .mov (.t 185)⟩,
    ⟨(some 187), (some (186, true)), .mov (.t 5)⟩,
    ⟨(some 188), (some (186, true)), .bin .leq (.t 187) (.c (.int .i64 8))⟩,
    ⟨(some 189), none, .pick (.t 186) (.t 188) (.c (.bool false))⟩,
    ⟨(some 190), none, .mov (.t 189)⟩,
    ⟨(some 191), (some (190, true)), .fad 5 (.t 2)⟩,
    ⟨(some 192), (some (190, true)), .ld false 1 (.t 191)⟩,
    ⟨(some 193), (some (190, true)), .len (.t 192)⟩,
    ⟨(some 194), (some (190, true)), .mov (.t 5)⟩,
    ⟨(some 195), (some (190, true)), .bin .rem (.t 193) (.t 194)⟩,
    ⟨(some 196), (some (190, true)), .bin .eql (.t 195) (.c (.int .i64 0))⟩,
    ⟨(some 197), none, .pick (.t 190) (.t 196) (.c (.bool false))⟩,
    ⟨(some 4), none, .mov (.t 197)⟩] (some [4]))
   (.ret)) (.skip)))))))))))
   (.seq (.rg [⟨(some 4), none, .mov (.c (.bool false))⟩] (some [4]))
   (.ret)))))))
def F_ref08_Right : F := ⟨i_ref08_Right, [(4, none)], false⟩
/-- stratagem/stratagemref08.Decls -/
def b_ref08_Decls_0 : IR := .seq (.seq (.rg [⟨(some 11), none, .mov (.t 5)⟩,
    ⟨(some 12), none, .mov (.t 0)⟩,
    ⟨(some 13), none, .len (.t 12)⟩,
    ⟨(some 14), none, .bin .lss (.t 11) (.t 13)⟩] (some [0, 1, 5, 14]))
   (.cond (.t 14) (.skip) (.ext 0)))
   (.seq (.blk 1 (.seq (.dq [(⟨(some 17), none, .mov (.t 0)⟩, []),
    (⟨(some 18), none, .mov (.t 5)⟩, []),
    (⟨(some 19), none, .iad 2 (.t 17) (.t 18)⟩, [0, 1]),
    (⟨(some 20), none, .fad 0 (.t 19)⟩, [0, 1, 2]),
    (⟨(some 21), none, .ld false 1 (.t 20)⟩, [0, 1, 2, 3]),
    (⟨(some 22), none, .mov (.t 1)⟩, []),
    (⟨(some 23), none, .mov (.t 5)⟩, []),
    (⟨(some 24), none, .iad 2 (.t 22) (.t 23)⟩, [5, 6]),
    (⟨(some 25), none, .fad 0 (.t 24)⟩, [5, 6, 7]),
    (⟨(some 26), none, .ld false 1 (.t 25)⟩, [5, 6, 7, 8]),
    (⟨(some 27), none, .bin .neq (.t 21) (.t 26)⟩, [0, 1, 2, 3, 4, 5, 6, 7, 8, 9]),
    (⟨(some 28), none, .mov (.t 27)⟩, [0, 1, 2, 3, 4, 5, 6, 7, 8, 9, 10]),
    (⟨(some 29), (some (28, false)), .mov (.t 0)⟩, [0, 1, 2, 3, 4, 5, 6, 7, 8, 9, 10, 11]),
    (⟨(some 30), (some (28, false)), .mov (.t 5)⟩, [0, 1, 2, 3, 4, 5, 6, 7, 8, 9, 10, 11]),
    (⟨(some 31), (some (28, false)), .iad 2 (.t 29) (.t 30)⟩, [0, 1, 2, 3, 4, 5, 6, 7, 8, 9, 10, 11, 12, 13]),
    (⟨(some 32), (some (28, false)), .fad 1 (.t 31)⟩, [0, 1, 2, 3, 4, 5, 6, 7, 8, 9, 10, 11, 12, 13, 14]),
    (⟨(some 33), (some (28, false)), .ld false 1 (.t 32)⟩, [0, 1, 2, 3, 4, 5, 6, 7, 8, 9, 10, 11, 12, 13, 14, 15]),
    (⟨(some 34), (some (28, false)), .mov (.t 1)⟩, [0, 1, 2, 3, 4, 5, 6, 7, 8, 9, 10, 11]),
    (⟨(some 35), (some (28, false)), .mov (.t 5)⟩, [0, 1, 2, 3, 4, 5, 6, 7, 8, 9, 10, 11]),
    (⟨(some 36), (some (28, false)), .iad 2 (.t 34) (.t 35)⟩, [0, 1, 2, 3, 4, 5, 6, 7, 8, 9, 10, 11, 17, 18]),
    (⟨(some 37), (some (28, false)), .fad 1 (.t 36)⟩, [0, 1, 2, 3, 4, 5, 6, 7, 8, 9, 10, 11, 17, 18, 19]),
    (⟨(some 38), (some (28, false)), .ld false 1 (.t 37)⟩, [0, 1, 2, 3, 4, 5, 6, 7, 8, 9, 10, 11, 17, 18, 19, 20]),
    (⟨(some 39), (some (28, false)), .call n_ref03_Same [(.t 33), (.t 38)]⟩, [0, 1, 2, 3, 4, 5, 6, 7, 8, 9, 10, 11, 12, 13, 14, 15, 16, 17, 18, 19, 20, 21]),
    (⟨(some 40), (some (28, false)), .un .not (.t 39)⟩, [0, 1, 2, 3, 4, 5, 6, 7, 8, 9, 10, 11, 12, 13, 14, 15, 16, 17, 18, 19, 20, 21, 22]),
    (⟨(some 41), none, .pick (.t 28) (.c (.bool true)) (.t 40)⟩, [0, 1, 2, 3, 4, 5, 6, 7, 8, 9, 10, 11, 12, 13, 14, 15, 16, 17, 18, 19, 20, 21, 22, 23])] (some [0, 1, 5, 41]))
   (.cond (.t 41) (.seq (.rg [⟨(some 4), none, .mov (.c (.bool false))⟩] (some [4]))
   (.ret)) (.skip))))
   (.rg [⟨(some 15), none, .mov (.t 5)⟩,
    ⟨(some 16), none, .bin .add (.t 15) (.c (.int .i64 1))⟩,
    ⟨(some 5), none, .mov (.t 16)⟩] (some [0, 1, 5])))
def i_ref08_Decls_l0 : IR := .loop b_ref08_Decls_0
theorem r_ref08_Decls_0 {C : Cx} {fr : Fr} {h : List Ob} : evw C i_ref08_Decls_l0 fr h = nxt (evw C b_ref08_Decls_0 fr h) fun fr h => evw C i_ref08_Decls_l0 fr h := w_loop
def i_ref08_Decls : IR := .seq (.rg [⟨(some 4), none, .mov (.c (.bool false))⟩] (some [0, 1]))
   (.seq (.seq (.rg [⟨(some 6), none, .mov (.t 0)⟩,
    ⟨(some 7), none, .len (.t 6)⟩,
    ⟨(some 8), none, .mov (.t 1)⟩,
    ⟨(some 9), none, .len (.t 8)⟩,
    ⟨(some 10), none, .bin .neq (.t 7) (.t 9)⟩] (some [0, 1, 10]))
   (.cond (.t 10) (.seq (.rg [⟨(some 4), none, .mov (.c (.bool false))⟩] (some [4]))
   (.ret)) (.skip)))
   (.seq (.seq (.rg [⟨(some 5), none, .mov (.c (.int .i64 0))⟩] (some [0, 1, 5]))
   (.blk 0 (i_ref08_Decls_l0)))
   (.seq (.rg [⟨(some 4), none, .mov (.c (.bool true))⟩] (some [4]))
   (.ret))))
def F_ref08_Decls : F := ⟨i_ref08_Decls, [(4, none)], false⟩
/-- stratagem/model.Vars -/
def b_model_Vars_0 : IR := .seq (.rg [⟨(some 19), none, .bin .lss (.t 18) (.t 17)⟩] (some [3, 9, 10, 11, 16, 17, 18, 19]))
   (.seq (.cond (.t 19) (.skip) (.ext 2))
   (.seq (.blk 3 (.seq (.rg [⟨(some 20), none, .iad 2 (.t 16) (.t 18)⟩,
    ⟨(some 21), none, .ld true 2 (.t 20)⟩,
    ⟨(some 7), none, .new (.agg [.str [], .nsl 2])⟩,
    ⟨none, none, .st 2 (.t 7) (.t 21)⟩] (some [3, 7, 9, 10, 11, 16, 17, 18]))
   (.dq [(⟨(some 22), none, .mov (.t 3)⟩, []),
    (⟨(some 23), none, .fad 0 (.t 7)⟩, []),
    (⟨(some 24), none, .ld false 1 (.t 23)⟩, [1]),
    (⟨(some 25), none, .fad 1 (.t 7)⟩, []),
    (⟨(some 26), none, .ld false 1 (.t 25)⟩, [3]),
    (⟨(some 27), none, .call n_slices_Clone_sapi_Span_api_Span [(.t 26)]⟩, [3, 4]),
    (⟨(some 28), none, .bld [.str [], .nsl 2] [(0, 1, (.t 24)), (1, 1, (.t 27))]⟩, [1, 2, 3, 4, 5]),
    (⟨(some 29), none, .bsf (.agg [.str [], .nsl 2]) 1 [(0, (.t 28))]⟩, [1, 2, 3, 4, 5, 6]),
    (⟨(some 30), none, .app 2 40 (.t 22) (.t 29)⟩, [0, 1, 2, 3, 4, 5, 6, 7]),
    (⟨(some 3), none, .mov (.t 30)⟩, [0, 1, 2, 3, 4, 5, 6, 7, 8])] (some [3, 9, 10, 11, 16, 17, 18]))))
   (.rg [⟨(some 31), none, .bin .add (.t 18) (.c (.int .i64 1))⟩,
    ⟨(some 18), none, .mov (.t 31)⟩] (some [3, 9, 10, 11, 16, 17, 18]))))
def i_model_Vars_l0 : IR := .loop b_model_Vars_0
theorem r_model_Vars_0 {C : Cx} {fr : Fr} {h : List Ob} : evw C i_model_Vars_l0 fr h = nxt (evw C b_model_Vars_0 fr h) fun fr h => evw C i_model_Vars_l0 fr h := w_loop
def b_model_Vars_1 : IR := .seq (.rg [⟨(some 12), none, .bin .lss (.t 11) (.t 10)⟩] (some [3, 9, 10, 11, 12]))
   (.seq (.cond (.t 12) (.skip) (.ext 0))
   (.seq (.blk 1 (.seq (.rg [⟨(some 13), none, .iad 3 (.t 9) (.t 11)⟩,
    ⟨(some 14), none, .ld true 3 (.t 13)⟩,
    ⟨(some 5), none, .new (.agg [.bool false, .nsl 2, .nsl 6])⟩,
    ⟨none, none, .st 3 (.t 5) (.t 14)⟩] (some [3, 5, 9, 10, 11]))
   (.seq (.rg [⟨(some 15), none, .fad 1 (.t 5)⟩,
    ⟨(some 16), none, .ld false 1 (.t 15)⟩,
    ⟨(some 17), none, .len (.t 16)⟩,
    ⟨(some 18), none, .mov (.c (.int .i64 0))⟩] (some [3, 9, 10, 11, 16, 17, 18]))
   (.blk 2 (i_model_Vars_l0)))))
   (.rg [⟨(some 32), none, .bin .add (.t 11) (.c (.int .i64 1))⟩,
    ⟨(some 11), none, .mov (.t 32)⟩] (some [3, 9, 10, 11]))))
def i_model_Vars_l1 : IR := .loop b_model_Vars_1
theorem r_model_Vars_1 {C : Cx} {fr : Fr} {h : List Ob} : evw C i_model_Vars_l1 fr h = nxt (evw C b_model_Vars_1 fr h) fun fr h => evw C i_model_Vars_l1 fr h := w_loop
def i_model_Vars : IR := .seq (.rg [⟨(some 1), none, .box (.t 0)⟩,
    ⟨(some 2), none, .mov (.c (.nsl 2))⟩] (some [1]))
   (.seq (.rg [⟨(some 3), none, .mov (.c (.nsl 2))⟩] (some [1, 3]))
   (.seq (.seq (.rg [⟨(some 8), none, .fad 0 (.t 1)⟩,
    ⟨(some 9), none, .ld false 1 (.t 8)⟩,
    ⟨(some 10), none, .len (.t 9)⟩,
    ⟨(some 11), none, .mov (.c (.int .i64 0))⟩] (some [3, 9, 10, 11]))
   (.blk 0 (i_model_Vars_l1)))
   (.seq (.rg [⟨(some 33), none, .mov (.t 3)⟩,
    ⟨(some 2), none, .mov (.t 33)⟩] (some [2]))
   (.ret))))
def F_model_Vars : F := ⟨i_model_Vars, [(2, none)], false⟩
/-- stratagem/stratagemref08.Vars -/
def b_ref08_Vars_0 : IR := .seq (.seq (.rg [⟨(some 6), none, .mov (.t 4)⟩,
    ⟨(some 7), none, .fad 0 (.t 1)⟩,
    ⟨(some 8), none, .ld false 1 (.t 7)⟩,
    ⟨(some 9), none, .len (.t 8)⟩,
    ⟨(some 10), none, .bin .lss (.t 6) (.t 9)⟩] (some [1, 3, 4, 10]))
   (.cond (.t 10) (.skip) (.ext 0)))
   (.seq (.blk 1 (.rg [⟨(some 13), none, .mov (.t 3)⟩,
    ⟨(some 14), none, .fad 0 (.t 1)⟩,
    ⟨(some 15), none, .ld false 1 (.t 14)⟩,
    ⟨(some 16), none, .mov (.t 4)⟩,
    ⟨(some 17), none, .iad 3 (.t 15) (.t 16)⟩,
    ⟨(some 18), none, .fad 1 (.t 17)⟩,
    ⟨(some 19), none, .ld false 1 (.t 18)⟩,
    ⟨(some 20), none, .app 2 40 (.t 13) (.t 19)⟩,
    ⟨(some 3), none, .mov (.t 20)⟩] (some [1, 3, 4])))
   (.rg [⟨(some 11), none, .mov (.t 4)⟩,
    ⟨(some 12), none, .bin .add (.t 11) (.c (.int .i64 1))⟩,
    ⟨(some 4), none, .mov (.t 12)⟩] (some [1, 3, 4])))
def i_ref08_Vars_l0 : IR := .loop b_ref08_Vars_0
theorem r_ref08_Vars_0 {C : Cx} {fr : Fr} {h : List Ob} : evw C i_ref08_Vars_l0 fr h = nxt (evw C b_ref08_Vars_0 fr h) fun fr h => evw C i_ref08_Vars_l0 fr h := w_loop
def i_ref08_Vars : IR := .seq (.rg [⟨(some 1), none, .box (.t 0)⟩,
    ⟨(some 2), none, .mov (.c (.nsl 2))⟩] (some [1]))
   (.seq (.rg [⟨(some 5), none, .bsl (.agg [.str [], .nsl 2]) 0 []⟩,
    ⟨(some 3), none, .mov (.t 5)⟩] (some [1, 3]))
   (.seq (.seq (.rg [⟨(some 4), none, .mov (.c (.int .i64 0))⟩] (some [1, 3, 4]))
   (.blk 0 (i_ref08_Vars_l0)))
   (.seq (.rg [⟨(some 21), none, .mov (.t 3)⟩,
    ⟨(some 2), none, .mov (.t 21)⟩] (some [2]))
   (.ret))))
def F_ref08_Vars : F := ⟨i_ref08_Vars, [(2, none)], false⟩
/-- stratagem/stratagemref02.Same -/
def b_ref02_Same_0 : IR := .seq (.seq (.rg [⟨(some 11), none, .mov (.t 5)⟩,
    ⟨(some 12), none, .mov (.t 0)⟩,
    ⟨(some 13), none, .len (.t 12)⟩,
    ⟨(some 14), none, .bin .lss (.t 11) (.t 13)⟩] (some [0, 1, 5, 14]))
   (.cond (.t 14) (.skip) (.ext 0)))
   (.seq (.blk 1 (.seq (.dq [(⟨(some 17), none, .mov (.t 0)⟩, []),
    (⟨(some 18), none, .mov (.t 5)⟩, []),
    (⟨(some 19), none, .iad 1 (.t 17) (.t 18)⟩, [0, 1]),
    (⟨(some 20), none, .ld false 1 (.t 19)⟩, [0, 1, 2]),
    (⟨(some 21), none, .mov (.t 1)⟩, []),
    (⟨(some 22), none, .mov (.t 5)⟩, []),
    (⟨(some 23), none, .iad 1 (.t 21) (.t 22)⟩, [4, 5]),
    (⟨(some 24), none, .ld false 1 (.t 23)⟩, [4, 5, 6]),
    (⟨(some 25), none, .bin .neq (.t 20) (.t 24)⟩, [0, 1, 2, 3, 4, 5, 6, 7])] (some [0, 1, 5, 25]))
   (.cond (.t 25) (.seq (.rg [⟨(some 4), none, .mov (.c (.bool false))⟩] (some [4]))
   (.ret)) (.skip))))
   (.rg [⟨(some 15), none, .mov (.t 5)⟩,
    ⟨(some 16), none, .bin .add (.t 15) (.c (.int .i64 1))⟩,
    ⟨(some 5), none, .mov (.t 16)⟩] (some [0, 1, 5])))
def i_ref02_Same_l0 : IR := .loop b_ref02_Same_0
theorem r_ref02_Same_0 {C : Cx} {fr : Fr} {h : List Ob} : evw C i_ref02_Same_l0 fr h = nxt (evw C b_ref02_Same_0 fr h) fun fr h => evw C i_ref02_Same_l0 fr h := w_loop
def i_ref02_Same : IR := .seq (.rg [⟨(some 4), none, .mov (.c (.bool false))⟩] (some [0, 1]))
   (.seq (.seq (.rg [⟨(some 6), none, .mov (.t 0)⟩,
    ⟨(some 7), none, .len (.t 6)⟩,
    ⟨(some 8), none, .mov (.t 1)⟩,
    ⟨(some 9), none, .len (.t 8)⟩,
    ⟨(some 10), none, .bin .neq (.t 7) (.t 9)⟩] (some [0, 1, 10]))
   (.cond (.t 10) (.seq (.rg [⟨(some 4), none, .mov (.c (.bool false))⟩] (some [4]))
   (.ret)) (.skip)))
   (.seq (.seq (.rg [⟨(some 5), none, .mov (.c (.int .i64 0))⟩] (some [0, 1, 5]))
   (.blk 0 (i_ref02_Same_l0)))
   (.seq (.rg [⟨(some 4), none, .mov (.c (.bool true))⟩] (some [4]))
   (.ret))))
def F_ref02_Same : F := ⟨i_ref02_Same, [(4, none)], false⟩
/-- stratagem/model.Ends -/
def b_model_Ends_0 : IR := .seq (.rg [⟨(some 11), none, .bin .lss (.t 10) (.t 9)⟩] (some [3, 4, 8, 9, 10, 11]))
   (.seq (.cond (.t 11) (.skip) (.ext 0))
   (.seq (.blk 1 (.seq (.rg [⟨(some 12), none, .iad 3 (.t 8) (.t 10)⟩,
    ⟨(some 13), none, .ld true 3 (.t 12)⟩,
    ⟨(some 6), none, .new (.agg [.bool false, .nsl 2, .nsl 6])⟩,
    ⟨none, none, .st 3 (.t 6) (.t 13)⟩] (some [3, 4, 6, 8, 9, 10]))
   (.seq (.rg [⟨(some 14), none, .mov (.t 4)⟩,
    ⟨(some 15), none, .fad 1 (.t 6)⟩,
    ⟨(some 16), none, .ld false 1 (.t 15)⟩,
    ⟨(some 17), none, .len (.t 16)⟩,
    ⟨(some 18), none, .bin .add (.t 14) (.t 17)⟩,
    ⟨(some 4), none, .mov (.t 18)⟩] (some [3, 4, 8, 9, 10]))
   (.rg [⟨(some 19), none, .mov (.t 3)⟩,
    ⟨(some 20), none, .mov (.t 4)⟩,
    ⟨(some 21), none, .bsf (.int .i64 0) 1 [(0, (.t 20))]⟩,
    ⟨(some 22), none, .app 1 8 (.t 19) (.t 21)⟩,
    ⟨(some 3), none, .mov (.t 22)⟩] (some [3, 4, 8, 9, 10])))))
   (.rg [⟨(some 23), none, .bin .add (.t 10) (.c (.int .i64 1))⟩,
    ⟨(some 10), none, .mov (.t 23)⟩] (some [3, 4, 8, 9, 10]))))
def i_model_Ends_l0 : IR := .loop b_model_Ends_0
theorem r_model_Ends_0 {C : Cx} {fr : Fr} {h : List Ob} : evw C i_model_Ends_l0 fr h = nxt (evw C b_model_Ends_0 fr h) fun fr h => evw C i_model_Ends_l0 fr h := w_loop
def i_model_Ends : IR := .seq (.rg [⟨(some 1), none, .box (.t 0)⟩,
    ⟨(some 2), none, .mov (.c (.nsl 1))⟩] (some [1]))
   (.seq (.rg [⟨(some 3), none, .mov (.c (.nsl 1))⟩] (some [1, 3]))
   (.seq (.rg [⟨(some 4), none, .mov (.c (.int .i64 0))⟩] (some [1, 3, 4]))
   (.seq (.seq (.rg [⟨(some 7), none, .fad 0 (.t 1)⟩,
    ⟨(some 8), none, .ld false 1 (.t 7)⟩,
    ⟨(some 9), none, .len (.t 8)⟩,
    ⟨(some 10), none, .mov (.c (.int .i64 0))⟩] (some [3, 4, 8, 9, 10]))
   (.blk 0 (i_model_Ends_l0)))
   (.seq (.rg [⟨(some 24), none, .mov (.t 3)⟩,
    ⟨(some 2), none, .mov (.t 24)⟩] (some [2]))
   (.ret)))))
def F_model_Ends : F := ⟨i_model_Ends, [(2, none)], false⟩
/-- stratagem/stratagemref08.Ends -/
def b_ref08_Ends_0 : IR := .seq (.seq (.rg [⟨(some 7), none, .mov (.t 5)⟩,
    ⟨(some 8), none, .fad 0 (.t 1)⟩,
    ⟨(some 9), none, .ld false 1 (.t 8)⟩,
    ⟨(some 10), none, .len (.t 9)⟩,
    ⟨(some 11), none, .bin .lss (.t 7) (.t 10)⟩] (some [1, 3, 4, 5, 11]))
   (.cond (.t 11) (.skip) (.ext 0)))
   (.seq (.blk 1 (.seq (.rg [⟨(some 14), none, .mov (.t 4)⟩,
    ⟨(some 15), none, .fad 0 (.t 1)⟩,
    ⟨(some 16), none, .ld false 1 (.t 15)⟩,
    ⟨(some 17), none, .mov (.t 5)⟩,
    ⟨(some 18), none, .iad 3 (.t 16) (.t 17)⟩,
    ⟨(some 19), none, .fad 1 (.t 18)⟩,
    ⟨(some 20), none, .ld false 1 (.t 19)⟩,
    ⟨(some 21), none, .len (.t 20)⟩,
    ⟨(some 22), none, .bin .add (.t 14) (.t 21)⟩,
    ⟨(some 4), none, .mov (.t 22)⟩] (some [1, 3, 4, 5]))
   (.rg [⟨(some 23), none, .mov (.t 3)⟩,
    ⟨(some 24), none, .mov (.t 4)⟩,
    ⟨(some 25), none, .bsf (.int .i64 0) 1 [(0, (.t 24))]⟩,
    ⟨(some 26), none, .app 1 8 (.t 23) (.t 25)⟩,
    ⟨(some 3), none, .mov (.t 26)⟩] (some [1, 3, 4, 5]))))
   (.rg [⟨(some 12), none, .mov (.t 5)⟩,
    ⟨(some 13), none, .bin .add (.t 12) (.c (.int .i64 1))⟩,
    ⟨(some 5), none, .mov (.t 13)⟩] (some [1, 3, 4, 5])))
def i_ref08_Ends_l0 : IR := .loop b_ref08_Ends_0
theorem r_ref08_Ends_0 {C : Cx} {fr : Fr} {h : List Ob} : evw C i_ref08_Ends_l0 fr h = nxt (evw C b_ref08_Ends_0 fr h) fun fr h => evw C i_ref08_Ends_l0 fr h := w_loop
def i_ref08_Ends : IR := .seq (.rg [⟨(some 1), none, .box (.t 0)⟩,
    ⟨(some 2), none, .mov (.c (.nsl 1))⟩] (some [1]))
   (.seq (.rg [⟨(some 6), none, .bsl (.int .i64 0) 0 []⟩,
    ⟨(some 3), none, .mov (.t 6)⟩] (some [1, 3]))
   (.seq (.rg [⟨(some 4), none, .mov (.c (.int .i64 0))⟩] (some [1, 3, 4]))
   (.seq (.seq (.rg [⟨(some 5), none, .mov (.c (.int .i64 0))⟩] (some [1, 3, 4, 5]))
   (.blk 0 (i_ref08_Ends_l0)))
   (.seq (.rg [⟨(some 27), none, .mov (.t 3)⟩,
    ⟨(some 2), none, .mov (.t 27)⟩] (some [2]))
   (.ret)))))
def F_ref08_Ends : F := ⟨i_ref08_Ends, [(2, none)], false⟩
/-- stratagem/model.Same -/
def i_model_Same : IR := .seq (.rg [⟨(some 2), none, .box (.t 0)⟩,
    ⟨(some 3), none, .box (.t 1)⟩,
    ⟨(some 4), none, .mov (.c (.bool false))⟩] (some [2, 3]))
   (.seq (.rg [⟨(some 5), none, .new (.nilf)⟩,
    ⟨none, none, .st 1 (.t 5) (.c (.fn (.func n_model_Same_1) [] []))⟩] (some [2, 3, 5]))
   (.seq (.rg [⟨(some 7), none, .mkf (.func n_model_Same_2) [] [(.t 5)]⟩,
    ⟨(some 6), none, .mov (.t 7)⟩] (some [2, 3, 6]))
   (.seq (.rg [⟨(some 8), none, .fad 0 (.t 2)⟩,
    ⟨(some 9), none, .ld false 1 (.t 8)⟩,
    ⟨(some 10), none, .fad 0 (.t 3)⟩,
    ⟨(some 11), none, .ld false 1 (.t 10)⟩,
    ⟨(some 12), none, .mov (.t 6)⟩,
    ⟨(some 13), none, .call n_slices_EqualFunc_sapi_Block_sapi_Block_api_Block_api_Block [(.t 9), (.t 11), (.t 12)]⟩,
    ⟨(some 14), none, .mov (.t 13)⟩,
    ⟨(some 15), (some (14, true)), .fad 1 (.t 2)⟩,
    ⟨(some 16), (some (14, true)), .ld false 1 (.t 15)⟩,
    ⟨(some 17), (some (14, true)), .fad 1 (.t 3)⟩,
    ⟨(some 18), (some (14, true)), .ld false 1 (.t 17)⟩,
    ⟨(some 19), (some (14, true)), .call n_slices_EqualFunc_sapi_Con_sapi_Con_api_Con_api_Con [(.t 16), (.t 18), (.c (.fn (.func n_model_alike) [] []))]⟩,
    ⟨(some 20), none, .pick (.t 14) (.t 19) (.c (.bool false))⟩,
    ⟨(some 4), none, .mov (.t 20)⟩] (some [4]))
   (.ret))))
def F_model_Same : F := ⟨i_model_Same, [(4, none)], false⟩
/-- stratagem/stratagemref08.Same -/
def b_ref08_Same_0 : IR := .seq (.seq (.rg [⟨(some 13), none, .mov (.t 5)⟩,
    ⟨(some 14), none, .fad 0 (.t 2)⟩,
    ⟨(some 15), none, .ld false 1 (.t 14)⟩,
    ⟨(some 16), none, .len (.t 15)⟩,
    ⟨(some 17), none, .bin .lss (.t 13) (.t 16)⟩] (some [2, 3, 5, 17]))
   (.cond (.t 17) (.skip) (.ext 0)))
   (.seq (.blk 1 (.seq (.dq [(⟨(some 20), none, .fad 0 (.t 2)⟩, []),
    (⟨(some 21), none, .ld false 1 (.t 20)⟩, [0]),
    (⟨(some 22), none, .mov (.t 5)⟩, []),
    (⟨(some 23), none, .iad 3 (.t 21) (.t 22)⟩, [0, 1, 2]),
    (⟨(some 24), none, .fad 0 (.t 23)⟩, [0, 1, 2, 3]),
    (⟨(some 25), none, .ld false 1 (.t 24)⟩, [0, 1, 2, 3, 4]),
    (⟨(some 26), none, .fad 0 (.t 3)⟩, []),
    (⟨(some 27), none, .ld false 1 (.t 26)⟩, [6]),
    (⟨(some 28), none, .mov (.t 5)⟩, []),
    (⟨(some 29), none, .iad 3 (.t 27) (.t 28)⟩, [6, 7, 8]),
    (⟨(some 30), none, .fad 0 (.t 29)⟩, [6, 7, 8, 9]),
    (⟨(some 31), none, .ld false 1 (.t 30)⟩, [6, 7, 8, 9, 10]),
    (⟨(some 32), none, .eq true .bool (.t 25) (.t 31)⟩, [0, 1, 2, 3, 4, 5, 6, 7, 8, 9, 10, 11]),
    (⟨(some 33), none, .mov (.t 32)⟩, [0, 1, 2, 3, 4, 5, 6, 7, 8, 9, 10, 11, 12]),
    (⟨(some 34), (some (33, false)), .fad 0 (.t 2)⟩, [0, 1, 2, 3, 4, 5, 6, 7, 8, 9, 10, 11, 12, 13]),
    (⟨(some 35), (some (33, false)), .ld false 1 (.t 34)⟩, [0, 1, 2, 3, 4, 5, 6, 7, 8, 9, 10, 11, 12, 13, 14]),
    (⟨(some 36), (some (33, false)), .mov (.t 5)⟩, [0, 1, 2, 3, 4, 5, 6, 7, 8, 9, 10, 11, 12, 13]),
    (⟨(some 37), (some (33, false)), .iad 3 (.t 35) (.t 36)⟩, [0, 1, 2, 3, 4, 5, 6, 7, 8, 9, 10, 11, 12, 13, 14, 15, 16]),
    (⟨(some 38), (some (33, false)), .fad 1 (.t 37)⟩, [0, 1, 2, 3, 4, 5, 6, 7, 8, 9, 10, 11, 12, 13, 14, 15, 16, 17]),
    (⟨(some 39), (some (33, false)), .ld false 1 (.t 38)⟩, [0, 1, 2, 3, 4, 5, 6, 7, 8, 9, 10, 11, 12, 13, 14, 15, 16, 17, 18]),
    (⟨(some 40), (some (33, false)), .fad 0 (.t 3)⟩, [0, 1, 2, 3, 4, 5, 6, 7, 8, 9, 10, 11, 12, 13]),
    (⟨(some 41), (some (33, false)), .ld false 1 (.t 40)⟩, [0, 1, 2, 3, 4, 5, 6, 7, 8, 9, 10, 11, 12, 13, 20]),
    (⟨(some 42), (some (33, false)), .mov (.t 5)⟩, [0, 1, 2, 3, 4, 5, 6, 7, 8, 9, 10, 11, 12, 13]),
    (⟨(some 43), (some (33, false)), .iad 3 (.t 41) (.t 42)⟩, [0, 1, 2, 3, 4, 5, 6, 7, 8, 9, 10, 11, 12, 13, 20, 21, 22]),
    (⟨(some 44), (some (33, false)), .fad 1 (.t 43)⟩, [0, 1, 2, 3, 4, 5, 6, 7, 8, 9, 10, 11, 12, 13, 20, 21, 22, 23]),
    (⟨(some 45), (some (33, false)), .ld false 1 (.t 44)⟩, [0, 1, 2, 3, 4, 5, 6, 7, 8, 9, 10, 11, 12, 13, 20, 21, 22, 23, 24]),
    (⟨(some 46), (some (33, false)), .call n_ref08_Decls [(.t 39), (.t 45)]⟩, [0, 1, 2, 3, 4, 5, 6, 7, 8, 9, 10, 11, 12, 13, 14, 15, 16, 17, 18, 19, 20, 21, 22, 23, 24, 25]),
    (⟨(some 47), (some (33, false)), .un .not (.t 46)⟩, [0, 1, 2, 3, 4, 5, 6, 7, 8, 9, 10, 11, 12, 13, 14, 15, 16, 17, 18, 19, 20, 21, 22, 23, 24, 25, 26]),
    (⟨(some 48), none, .pick (.t 33) (.c (.bool true)) (.t 47)⟩, [0, 1, 2, 3, 4, 5, 6, 7, 8, 9, 10, 11, 12, 13, 14, 15, 16, 17, 18, 19, 20, 21, 22, 23, 24, 25, 26, 27]),
    (⟨(some 49), none, .mov (.t 48)⟩, [0, 1, 2, 3, 4, 5, 6, 7, 8, 9, 10, 11, 12, 13, 14, 15, 16, 17, 18, 19, 20, 21, 22, 23, 24, 25, 26, 27, 28]),
    (⟨(some 50), (some (49, false)), .fad 0 (.t 2)⟩, [0, 1, 2, 3, 4, 5, 6, 7, 8, 9, 10, 11, 12, 13, 14, 15, 16, 17, 18, 19, 20, 21, 22, 23, 24, 25, 26, 27, 28, 29]),
    (⟨(some 51), (some (49, false)), .ld false 1 (.t 50)⟩, [0, 1, 2, 3, 4, 5, 6, 7, 8, 9, 10, 11, 12, 13, 14, 15, 16, 17, 18, 19, 20, 21, 22, 23, 24, 25, 26, 27, 28, 29, 30]),
    (⟨(some 52), (some (49, false)), .mov (.t 5)⟩, [0, 1, 2, 3, 4, 5, 6, 7, 8, 9, 10, 11, 12, 13, 14, 15, 16, 17, 18, 19, 20, 21, 22, 23, 24, 25, 26, 27, 28, 29]),
    (⟨(some 53), (some (49, false)), .iad 3 (.t 51) (.t 52)⟩, [0, 1, 2, 3, 4, 5, 6, 7, 8, 9, 10, 11, 12, 13, 14, 15, 16, 17, 18, 19, 20, 21, 22, 23, 24, 25, 26, 27, 28, 29, 30, 31, 32]),
    (⟨(some 54), (some (49, false)), .fad 2 (.t 53)⟩, [0, 1, 2, 3, 4, 5, 6, 7, 8, 9, 10, 11, 12, 13, 14, 15, 16, 17, 18, 19, 20, 21, 22, 23, 24, 25, 26, 27, 28, 29, 30, 31, 32, 33]),
    (⟨(some 55), (some (49, false)), .ld false 1 (.t 54)⟩, [0, 1, 2, 3, 4, 5, 6, 7, 8, 9, 10, 11, 12, 13, 14, 15, 16, 17, 18, 19, 20, 21, 22, 23, 24, 25, 26, 27, 28, 29, 30, 31, 32, 33, 34]),
    (⟨(some 56), (some (49, false)), .fad 0 (.t 3)⟩, [0, 1, 2, 3, 4, 5, 6, 7, 8, 9, 10, 11, 12, 13, 14, 15, 16, 17, 18, 19, 20, 21, 22, 23, 24, 25, 26, 27, 28, 29]),
    (⟨(some 57), (some (49, false)), .ld false 1 (.t 56)⟩, [0, 1, 2, 3, 4, 5, 6, 7, 8, 9, 10, 11, 12, 13, 14, 15, 16, 17, 18, 19, 20, 21, 22, 23, 24, 25, 26, 27, 28, 29, 36]),
    (⟨(some 58), (some (49, false)), .mov (.t 5)⟩, [0, 1, 2, 3, 4, 5, 6, 7, 8, 9, 10, 11, 12, 13, 14, 15, 16, 17, 18, 19, 20, 21, 22, 23, 24, 25, 26, 27, 28, 29]),
    (⟨(some 59), (some (49, false)), .iad 3 (.t 57) (.t 58)⟩, [0, 1, 2, 3, 4, 5, 6, 7, 8, 9, 10, 11, 12, 13, 14, 15, 16, 17, 18, 19, 20, 21, 22, 23, 24, 25, 26, 27, 28, 29, 36, 37, 38]),
    (⟨(some 60), (some (49, false)), .fad 2 (.t 59)⟩, [0, 1, 2, 3, 4, 5, 6, 7, 8, 9, 10, 11, 12, 13, 14, 15, 16, 17, 18, 19, 20, 21, 22, 23, 24, 25, 26, 27, 28, 29, 36, 37, 38, 39]),
    (⟨(some 61), (some (49, false)), .ld false 1 (.t 60)⟩, [0, 1, 2, 3, 4, 5, 6, 7, 8, 9, 10, 11, 12, 13, 14, 15, 16, 17, 18, 19, 20, 21, 22, 23, 24, 25, 26, 27, 28, 29, 36, 37, 38, 39, 40]),
    (⟨(some 62), (some (49, false)), .call n_ref08_Alike [(.t 55), (.t 61)]⟩, [0, 1, 2, 3, 4, 5, 6, 7, 8, 9, 10, 11, 12, 13, 14, 15, 16, 17, 18, 19, 20, 21, 22, 23, 24, 25, 26, 27, 28, 29, 30, 31, 32, 33, 34, 35, 36, 37, 38, 39, 40, 41]),
    (⟨(some 63), (some (49, false)), .un .not (.t 62)⟩, [0, 1, 2, 3, 4, 5, 6, 7, 8, 9, 10, 11, 12, 13, 14, 15, 16, 17, 18, 19, 20, 21, 22, 23, 24, 25, 26, 27, 28, 29, 30, 31, 32, 33, 34, 35, 36, 37, 38, 39, 40, 41, 42]),
    (⟨(some 64), none, .pick (.t 49) (.c (.bool true)) (.t 63)⟩, [0, 1, 2, 3, 4, 5, 6, 7, 8, 9, 10, 11, 12, 13, 14, 15, 16, 17, 18, 19, 20, 21, 22, 23, 24, 25, 26, 27, 28, 29, 30, 31, 32, 33, 34, 35, 36, 37, 38, 39, 40, 41, 42, 43])] (some [2, 3, 5, 64]))
   (.cond (.t 64) (.seq (.rg [⟨(some 4), none, .mov (.c (.bool false))⟩] (some [4]))
   (.ret)) (.skip))))
   (.rg [⟨(some 18), none, .mov (.t 5)⟩,
    ⟨(some 19), none, .bin .add (.t 18) (.c (.int .i64 1))⟩,
    ⟨(some 5), none, .mov (.t 19)⟩] (some [2, 3, 5])))
def i_ref08_Same_l0 : IR := .loop b_ref08_Same_0
theorem r_ref08_Same_0 {C : Cx} {fr : Fr} {h : List Ob} : evw C i_ref08_Same_l0 fr h = nxt (evw C b_ref08_Same_0 fr h) fun fr h => evw C i_ref08_Same_l0 fr h := w_loop
def i_ref08_Same : IR := .seq (.rg [⟨(some 2), none, .box (.t 0)⟩,
    ⟨(some 3), none, .box (.t 1)⟩,
    ⟨(some 4), none, .mov (.c (.bool false))⟩] (some [2, 3]))
   (.seq (.seq (.rg [⟨(some 6), none, .fad 0 (.t 2)⟩,
    ⟨(some 7), none, .ld false 1 (.t 6)⟩,
    ⟨(some 8), none, .len (.t 7)⟩,
    ⟨(some 9), none, .fad 0 (.t 3)⟩,
    ⟨(some 10), none, .ld false 1 (.t 9)⟩,
    ⟨(some 11), none, .len (.t 10)⟩,
    ⟨(some 12), none, .bin .neq (.t 8) (.t 11)⟩] (some [2, 3, 12]))
   (.cond (.t 12) (.seq (.rg [⟨(some 4), none, .mov (.c (.bool false))⟩] (some [4]))
   (.ret)) (.skip)))
   (.seq (.seq (.rg [⟨(some 5), none, .mov (.c (.int .i64 0))⟩] (some [2, 3, 5]))
   (.blk 0 (i_ref08_Same_l0)))
   (.seq (.rg [⟨(some 65), none, .fad 1 (.t 2)⟩,
    ⟨(some 66), none, .ld false 1 (.t 65)⟩,
    ⟨(some 67), none, .fad 1 (.t 3)⟩,
    ⟨(some 68), none, .ld false 1 (.t 67)⟩,
    ⟨(some 69), none, .call n_ref08_Alike [(.t 66), (.t 68)]⟩,
    ⟨(some 4), none, .mov (.t 69)⟩] (some [4]))
   (.ret))))
def F_ref08_Same : F := ⟨i_ref08_Same, [(4, none)], false⟩
/-- stratagem/model.Nodes -/
def b_model_Nodes_0 : IR := .seq (.rg [⟨(some 14), none, .bin .lss (.t 13) (.t 12)⟩] (some [3, 11, 12, 13, 14]))
   (.seq (.cond (.t 14) (.skip) (.ext 0))
   (.seq (.blk 1 (.seq (.rg [⟨(some 15), none, .iad 2 (.t 11) (.t 13)⟩,
    ⟨(some 16), none, .ld true 2 (.t 15)⟩,
    ⟨(some 5), none, .new (.agg [.str [], .nsl 2])⟩,
    ⟨none, none, .st 2 (.t 5) (.t 16)⟩] (some [3, 5, 11, 12, 13]))
   (.seq (.rg [⟨(some 17), none, .fad 1 (.t 5)⟩,
    ⟨(some 18), none, .ld false 1 (.t 17)⟩,
    ⟨(some 19), none, .call n_spans_Size [(.t 18)]⟩,
    ⟨(some 20), none, .bin .add (.t 19) (.c (.int .i64 1))⟩,
    ⟨(some 6), none, .mov (.t 20)⟩] (some [3, 6, 11, 12, 13]))
   (.seq (.seq (.rg [⟨(some 21), none, .mov (.t 3)⟩,
    ⟨(some 22), none, .mov (.t 6)⟩,
    ⟨(some 23), none, .bin .quo (.c (.int .i64 9223372036854775807)) (.t 22)⟩,
    ⟨(some 24), none, .bin .gtr (.t 21) (.t 23)⟩] (some [3, 6, 11, 12, 13, 24]))
   (.cond (.t 24) (.seq (.rg [⟨(some 2), none, .mov (.c (.int .i64 9223372036854775807))⟩] (some [2]))
   (.ret)) (.skip)))
   (.rg [⟨(some 25), none, .mov (.t 3)⟩,
    ⟨(some 26), none, .mov (.t 6)⟩,
    ⟨(some 27), none, .bin .mul (.t 25) (.t 26)⟩,
    ⟨(some 3), none, .mov (.t 27)⟩] (some [3, 11, 12, 13]))))))
   (.rg [⟨(some 28), none, .bin .add (.t 13) (.c (.int .i64 1))⟩,
    ⟨(some 13), none, .mov (.t 28)⟩] (some [3, 11, 12, 13]))))
def i_model_Nodes_l0 : IR := .loop b_model_Nodes_0
theorem r_model_Nodes_0 {C : Cx} {fr : Fr} {h : List Ob} : evw C i_model_Nodes_l0 fr h = nxt (evw C b_model_Nodes_0 fr h) fun fr h => evw C i_model_Nodes_l0 fr h := w_loop
def i_model_Nodes : IR := .seq (.rg [⟨(some 1), none, .box (.t 0)⟩,
    ⟨(some 2), none, .mov (.c (.int .i64 0))⟩] (some [1]))
   (.seq (.seq (.rg [⟨(some 7), none, .ld true 2 (.t 1)⟩,
    ⟨(some 8), none, .call n_model_Check [(.t 7)]⟩,
    ⟨(some 9), none, .bin .neq (.t 8) (.c (.int .i64 0))⟩] (some [1, 9]))
   (.cond (.t 9) (.seq (.rg [⟨(some 2), none, .mov (.c (.int .i64 0))⟩] (some [2]))
   (.ret)) (.skip)))
   (.seq (.rg [⟨(some 3), none, .mov (.c (.int .i64 2))⟩] (some [1, 3]))
   (.seq (.seq (.rg [⟨(some 10), none, .ld true 2 (.t 1)⟩,
    ⟨(some 11), none, .call n_model_Vars [(.t 10)]⟩,
    ⟨(some 12), none, .len (.t 11)⟩,
    ⟨(some 13), none, .mov (.c (.int .i64 0))⟩] (some [3, 11, 12, 13]))
   (.blk 0 (i_model_Nodes_l0)))
   (.seq (.rg [⟨(some 29), none, .mov (.t 3)⟩,
    ⟨(some 2), none, .mov (.t 29)⟩] (some [2]))
   (.ret)))))
def F_model_Nodes : F := ⟨i_model_Nodes, [(2, none)], false⟩
/-- stratagem/stratagemref08.Nodes -/
def b_ref08_Nodes_0 : IR := .seq (.seq (.rg [⟨(some 19), none, .mov (.t 7)⟩,
    ⟨(some 20), none, .mov (.t 3)⟩,
    ⟨(some 21), none, .mov (.t 5)⟩,
    ⟨(some 22), none, .iad 2 (.t 20) (.t 21)⟩,
    ⟨(some 23), none, .fad 1 (.t 22)⟩,
    ⟨(some 24), none, .ld false 1 (.t 23)⟩,
    ⟨(some 25), none, .call n_ref03_Size [(.t 24)]⟩,
    ⟨(some 26), none, .bin .leq (.t 19) (.t 25)⟩] (some [3, 4, 5, 6, 7, 26]))
   (.cond (.t 26) (.skip) (.ext 2)))
   (.seq (.blk 3 (.seq (.seq (.rg [⟨(some 29), none, .mov (.t 6)⟩,
    ⟨(some 30), none, .mov (.t 4)⟩,
    ⟨(some 31), none, .bin .sub (.c (.int .i64 9223372036854775807)) (.t 30)⟩,
    ⟨(some 32), none, .bin .gtr (.t 29) (.t 31)⟩] (some [3, 4, 5, 6, 7, 32]))
   (.cond (.t 32) (.seq (.rg [⟨(some 2), none, .mov (.c (.int .i64 9223372036854775807))⟩] (some [2]))
   (.ret)) (.skip)))
   (.rg [⟨(some 33), none, .mov (.t 6)⟩,
    ⟨(some 34), none, .mov (.t 4)⟩,
    ⟨(some 35), none, .bin .add (.t 33) (.t 34)⟩,
    ⟨(some 6), none, .mov (.t 35)⟩] (some [3, 4, 5, 6, 7]))))
   (.rg [⟨(some 27), none, .mov (.t 7)⟩,
    ⟨(some 28), none, .bin .add (.t 27) (.c (.int .i64 1))⟩,
    ⟨(some 7), none, .mov (.t 28)⟩] (some [3, 4, 5, 6, 7])))
def i_ref08_Nodes_l0 : IR := .loop b_ref08_Nodes_0
theorem r_ref08_Nodes_0 {C : Cx} {fr : Fr} {h : List Ob} : evw C i_ref08_Nodes_l0 fr h = nxt (evw C b_ref08_Nodes_0 fr h) fun fr h => evw C i_ref08_Nodes_l0 fr h := w_loop
def b_ref08_Nodes_1 : IR := .seq (.seq (.rg [⟨(some 13), none, .mov (.t 5)⟩,
    ⟨(some 14), none, .mov (.t 3)⟩,
    ⟨(some 15), none, .len (.t 14)⟩,
    ⟨(some 16), none, .bin .lss (.t 13) (.t 15)⟩] (some [3, 4, 5, 16]))
   (.cond (.t 16) (.skip) (.ext 0)))
   (.seq (.blk 1 (.seq (.rg [⟨(some 6), none, .mov (.c (.int .i64 0))⟩] (some [3, 4, 5, 6]))
   (.seq (.seq (.rg [⟨(some 7), none, .mov (.c (.int .i64 0))⟩] (some [3, 4, 5, 6, 7]))
   (.blk 2 (i_ref08_Nodes_l0)))
   (.rg [⟨(some 36), none, .mov (.t 6)⟩,
    ⟨(some 4), none, .mov (.t 36)⟩] (some [3, 4, 5])))))
   (.rg [⟨(some 17), none, .mov (.t 5)⟩,
    ⟨(some 18), none, .bin .add (.t 17) (.c (.int .i64 1))⟩,
    ⟨(some 5), none, .mov (.t 18)⟩] (some [3, 4, 5])))
def i_ref08_Nodes_l1 : IR := .loop b_ref08_Nodes_1
theorem r_ref08_Nodes_1 {C : Cx} {fr : Fr} {h : List Ob} : evw C i_ref08_Nodes_l1 fr h = nxt (evw C b_ref08_Nodes_1 fr h) fun fr h => evw C i_ref08_Nodes_l1 fr h := w_loop
def i_ref08_Nodes : IR := .seq (.rg [⟨(some 1), none, .box (.t 0)⟩,
    ⟨(some 2), none, .mov (.c (.int .i64 0))⟩] (some [1]))
   (.seq (.seq (.rg [⟨(some 8), none, .ld true 2 (.t 1)⟩,
    ⟨(some 9), none, .call n_ref08_Check [(.t 8)]⟩,
    ⟨(some 10), none, .bin .neq (.t 9) (.c (.int .i64 0))⟩] (some [1, 10]))
   (.cond (.t 10) (.seq (.rg [⟨(some 2), none, .mov (.c (.int .i64 0))⟩] (some [2]))
   (.ret)) (.skip)))
   (.seq (.rg [⟨(some 11), none, .ld true 2 (.t 1)⟩,
    ⟨(some 12), none, .call n_ref08_Vars [(.t 11)]⟩,
    ⟨(some 3), none, .mov (.t 12)⟩] (some [3]))
   (.seq (.rg [⟨(some 4), none, .mov (.c (.int .i64 2))⟩] (some [3, 4]))
   (.seq (.seq (.rg [⟨(some 5), none, .mov (.c (.int .i64 0))⟩] (some [3, 4, 5]))
   (.blk 0 (i_ref08_Nodes_l1)))
   (.seq (.rg [⟨(some 37), none, .mov (.t 4)⟩,
    ⟨(some 2), none, .mov (.t 37)⟩] (some [2]))
   (.ret))))))
def F_ref08_Nodes : F := ⟨i_ref08_Nodes, [(2, none)], false⟩
/-- stratagem/stratagemref03.Same -/
def b_ref03_Same_0 : IR := .seq (.seq (.rg [⟨(some 11), none, .mov (.t 5)⟩,
    ⟨(some 12), none, .mov (.t 0)⟩,
    ⟨(some 13), none, .len (.t 12)⟩,
    ⟨(some 14), none, .bin .lss (.t 11) (.t 13)⟩] (some [0, 1, 5, 14]))
   (.cond (.t 14) (.skip) (.ext 0)))
   (.seq (.blk 1 (.seq (.dq [(⟨(some 17), none, .mov (.t 0)⟩, []),
    (⟨(some 18), none, .mov (.t 5)⟩, []),
    (⟨(some 19), none, .iad 2 (.t 17) (.t 18)⟩, [0, 1]),
    (⟨(some 20), none, .ld true 2 (.t 19)⟩, [0, 1, 2]),
    (⟨(some 21), none, .mov (.t 1)⟩, []),
    (⟨(some 22), none, .mov (.t 5)⟩, []),
    (⟨(some 23), none, .iad 2 (.t 21) (.t 22)⟩, [4, 5]),
    (⟨(some 24), none, .ld true 2 (.t 23)⟩, [4, 5, 6]),
    (⟨(some 25), none, .eq true (.agg [(0, 1, .int), (1, 1, .int)]) (.t 20) (.t 24)⟩, [0, 1, 2, 3, 4, 5, 6, 7])] (some [0, 1, 5, 25]))
   (.cond (.t 25) (.seq (.rg [⟨(some 4), none, .mov (.c (.bool false))⟩] (some [4]))
   (.ret)) (.skip))))
   (.rg [⟨(some 15), none, .mov (.t 5)⟩,
    ⟨(some 16), none, .bin .add (.t 15) (.c (.int .i64 1))⟩,
    ⟨(some 5), none, .mov (.t 16)⟩] (some [0, 1, 5])))
def i_ref03_Same_l0 : IR := .loop b_ref03_Same_0
theorem r_ref03_Same_0 {C : Cx} {fr : Fr} {h : List Ob} : evw C i_ref03_Same_l0 fr h = nxt (evw C b_ref03_Same_0 fr h) fun fr h => evw C i_ref03_Same_l0 fr h := w_loop
def i_ref03_Same : IR := .seq (.rg [⟨(some 4), none, .mov (.c (.bool false))⟩] (some [0, 1]))
   (.seq (.seq (.rg [⟨(some 6), none, .mov (.t 0)⟩,
    ⟨(some 7), none, .len (.t 6)⟩,
    ⟨(some 8), none, .mov (.t 1)⟩,
    ⟨(some 9), none, .len (.t 8)⟩,
    ⟨(some 10), none, .bin .neq (.t 7) (.t 9)⟩] (some [0, 1, 10]))
   (.cond (.t 10) (.seq (.rg [⟨(some 4), none, .mov (.c (.bool false))⟩] (some [4]))
   (.ret)) (.skip)))
   (.seq (.seq (.rg [⟨(some 5), none, .mov (.c (.int .i64 0))⟩] (some [0, 1, 5]))
   (.blk 0 (i_ref03_Same_l0)))
   (.seq (.rg [⟨(some 4), none, .mov (.c (.bool true))⟩] (some [4]))
   (.ret))))
def F_ref03_Same : F := ⟨i_ref03_Same, [(4, none)], false⟩
/-- stratagem/stratagemlaw08.small -/
def i_law08_small : IR := .seq (.rg [⟨(some 0), none, .new (.agg [.nsl 3, .nsl 6])⟩] (some [0]))
   (.seq (.rg [⟨(some 2), none, .bld [.int .i64 0, .int .i64 0] [(0, 1, (.c (.int .i64 0))), (1, 1, (.c (.int .i64 1)))]⟩,
    ⟨(some 3), none, .bsl (.agg [.int .i64 0, .int .i64 0]) 1 [(0, (.t 2))]⟩,
    ⟨(some 1), none, .mov (.t 3)⟩] (some [0, 1]))
   (.seq (.rg [⟨(some 4), none, .mov (.t 1)⟩,
    ⟨(some 5), none, .bld [.str [], .nsl 2] [(0, 1, (.c (.str [121]))), (1, 1, (.t 4))]⟩,
    ⟨(some 6), none, .bsl (.agg [.str [], .nsl 2]) 1 [(0, (.t 5))]⟩,
    ⟨(some 7), none, .bld [.bool false, .nsl 2, .nsl 6] [(0, 1, (.c (.bool true))), (1, 1, (.t 6))]⟩,
    ⟨(some 8), none, .mov (.t 1)⟩,
    ⟨(some 9), none, .bld [.str [], .nsl 2] [(0, 1, (.c (.str [120]))), (1, 1, (.t 8))]⟩,
    ⟨(some 10), none, .bsl (.agg [.str [], .nsl 2]) 1 [(0, (.t 9))]⟩,
    ⟨(some 11), none, .bld [.bool false, .nsl 2, .nsl 6] [(1, 1, (.t 10))]⟩,
    ⟨(some 12), none, .bsl (.agg [.bool false, .nsl 2, .nsl 6]) 2 [(0, (.t 7)), (1, (.t 11))]⟩,
    ⟨(some 13), none, .bsl (.int .i64 0) 2 [(0, (.c (.int .i64 0))), (1, (.c (.int .i64 1)))]⟩,
    ⟨(some 14), none, .bsl (.int .i64 0) 2 [(0, (.c (.int .i64 1))), (1, (.c (.int .i64 (-1))))]⟩,
    ⟨(some 15), none, .bld [.int .i64 0, .nsl 1, .nsl 1, .int .i64 0, .int .i64 0, .nsl 1] [(0, 1, (.c (.int .i64 1))), (1, 1, (.t 13)), (2, 1, (.t 14))]⟩,
    ⟨(some 16), none, .bsl (.agg [.int .i64 0, .nsl 1, .nsl 1, .int .i64 0, .int .i64 0, .nsl 1]) 1 [(0, (.t 15))]⟩,
    ⟨(some 17), none, .bld [.nsl 3, .nsl 6] [(0, 1, (.t 12)), (1, 1, (.t 16))]⟩,
    ⟨none, none, .st 2 (.t 0) (.t 17)⟩] (some [0]))
   (.ret)))
def F_law08_small : F := ⟨i_law08_small, [(0, some (true, 2))], true⟩
/-- stratagem/model.big -/
def i_model_big : IR := .seq (.rg [⟨(some 1), none, .box (.t 0)⟩,
    ⟨(some 2), none, .mov (.c (.bool false))⟩] (some [1]))
   (.seq (.rg [⟨(some 3), none, .fad 0 (.t 1)⟩,
    ⟨(some 4), none, .ld false 1 (.t 3)⟩,
    ⟨(some 5), none, .len (.t 4)⟩,
    ⟨(some 6), none, .bin .gtr (.t 5) (.c (.int .i64 8))⟩,
    ⟨(some 7), none, .mov (.t 6)⟩,
    ⟨(some 8), (some (7, false)), .ld true 2 (.t 1)⟩,
    ⟨(some 9), (some (7, false)), .call n_model_Vars [(.t 8)]⟩,
    ⟨(some 10), (some (7, false)), .len (.t 9)⟩,
    ⟨(some 11), (some (7, false)), .bin .gtr (.t 10) (.c (.int .i64 16))⟩,
    ⟨(some 12), none, .pick (.t 7) (.c (.bool true)) (.t 11)⟩,
    ⟨(some 13), none, .mov (.t 12)⟩,
    ⟨(some 14), (some (13, false)), .fad 1 (.t 1)⟩,
    ⟨(some 15), (some (13, false)), .ld false 1 (.t 14)⟩,
    ⟨(some 16), (some (13, false)), .len (.t 15)⟩,
    ⟨(some 17), (some (13, false)), .bin .gtr (.t 16) (.c (.int .i64 16))⟩,
    ⟨(some 18), none, .pick (.t 13) (.c (.bool true)) (.t 17)⟩,
    ⟨(some 19), none, .mov (.t 18)⟩,
    ⟨(some 20), (some (19, false)), .fad 0 (.t 1)⟩,
    ⟨(some 21), (some (19, false)), .ld false 1 (.t 20)⟩,
    ⟨(some 22), (some (19, false)), .call n_slices_ContainsFunc_sapi_Block_api_Block [(.t 21), (.c (.fn (.func n_model_big_1) [] []))]⟩,
    ⟨(some 23), none, .pick (.t 19) (.c (.bool true)) (.t 22)⟩,
    ⟨(some 2), none, .mov (.t 23)⟩] (some [2]))
   (.ret))
def F_model_big : F := ⟨i_model_big, [(2, none)], false⟩
/-- slices.ContainsFunc[[]stratagem/api.Block,stratagem/api.Block] -/
def i_slices_ContainsFunc_sapi_Block_api_Block : IR := .seq (.rg [⟨(some 4), none, .mov (.c (.bool false))⟩] (some [0, 1]))
   (.seq (.rg [⟨(some 5), none, .mov (.t 0)⟩,
    ⟨(some 6), none, .mov (.t 1)⟩,
    ⟨(some 7), none, .call n_slices_IndexFunc_sapi_Block_api_Block [(.t 5), (.t 6)]⟩,
    ⟨(some 8), none, .bin .geq (.t 7) (.c (.int .i64 0))⟩,
    ⟨(some 4), none, .mov (.t 8)⟩] (some [4]))
   (.ret))
def F_slices_ContainsFunc_sapi_Block_api_Block : F := ⟨i_slices_ContainsFunc_sapi_Block_api_Block, [(4, none)], false⟩
/-- stratagem/model.Check$1 -/
def i_model_Check_1 : IR := .seq (.rg [⟨(some 1), none, .box (.t 0)⟩,
    ⟨(some 2), none, .mov (.c (.bool false))⟩] (some [1]))
   (.seq (.rg [⟨(some 3), none, .fad 1 (.t 1)⟩,
    ⟨(some 4), none, .ld false 1 (.t 3)⟩,
    ⟨(some 5), none, .len (.t 4)⟩,
    ⟨(some 6), none, .bin .eql (.t 5) (.c (.int .i64 0))⟩,
    ⟨(some 2), none, .mov (.t 6)⟩] (some [2]))
   (.ret))
def F_model_Check_1 : F := ⟨i_model_Check_1, [(2, none)], false⟩
/-- slices.ContainsFunc[[]stratagem/api.Decl,stratagem/api.Decl] -/
def i_slices_ContainsFunc_sapi_Decl_api_Decl : IR := .seq (.rg [⟨(some 4), none, .mov (.c (.bool false))⟩] (some [0, 1]))
   (.seq (.rg [⟨(some 5), none, .mov (.t 0)⟩,
    ⟨(some 6), none, .mov (.t 1)⟩,
    ⟨(some 7), none, .call n_slices_IndexFunc_sapi_Decl_api_Decl [(.t 5), (.t 6)]⟩,
    ⟨(some 8), none, .bin .geq (.t 7) (.c (.int .i64 0))⟩,
    ⟨(some 4), none, .mov (.t 8)⟩] (some [4]))
   (.ret))
def F_slices_ContainsFunc_sapi_Decl_api_Decl : F := ⟨i_slices_ContainsFunc_sapi_Decl_api_Decl, [(4, none)], false⟩
/-- stratagem/model.Check$2 -/
def i_model_Check_2 : IR := .seq (.rg [⟨(some 1), none, .box (.t 0)⟩,
    ⟨(some 2), none, .mov (.c (.bool false))⟩] (some [1]))
   (.seq (.rg [⟨(some 3), none, .fad 0 (.t 1)⟩,
    ⟨(some 4), none, .ld false 1 (.t 3)⟩,
    ⟨(some 5), none, .call n_model_Name [(.t 4)]⟩,
    ⟨(some 6), none, .un .not (.t 5)⟩,
    ⟨(some 2), none, .mov (.t 6)⟩] (some [2]))
   (.ret))
def F_model_Check_2 : F := ⟨i_model_Check_2, [(2, none)], false⟩
/-- stratagem/model.Check$3 -/
def i_model_Check_3 : IR := .seq (.rg [⟨(some 2), none, .box (.t 0)⟩,
    ⟨(some 3), none, .mov (.c (.bool false))⟩] (some [1, 2]))
   (.seq (.rg [⟨(some 4), none, .fad 0 (.t 2)⟩,
    ⟨(some 5), none, .ld false 1 (.t 4)⟩,
    ⟨(some 6), none, .fad 0 (.t 1)⟩,
    ⟨(some 7), none, .ld false 1 (.t 6)⟩,
    ⟨(some 8), none, .bin .eql (.t 5) (.t 7)⟩,
    ⟨(some 3), none, .mov (.t 8)⟩] (some [3]))
   (.ret))
def F_model_Check_3 : F := ⟨i_model_Check_3, [(3, none)], false⟩
/-- stratagem/model.Check$4 -/
def i_model_Check_4 : IR := .seq (.rg [⟨(some 1), none, .box (.t 0)⟩,
    ⟨(some 2), none, .mov (.c (.bool false))⟩] (some [1]))
   (.seq (.rg [⟨(some 4), none, .fad 1 (.t 1)⟩,
    ⟨(some 5), none, .ld false 1 (.t 4)⟩,
    ⟨(some 6), none, .call n_spans_Size [(.t 5)]⟩,
    ⟨(some 3), none, .mov (.t 6)⟩] (some [3]))
   (.seq (.rg [⟨(some 7), none, .mov (.t 3)⟩,
    ⟨(some 8), none, .bin .lss (.t 7) (.c (.int .i64 1))⟩,
    ⟨(some 9), none, .mov (.t 8)⟩,
    ⟨(some 10), (some (9, false)), .mov (.t 3)⟩,
    ⟨(some 11), (some (9, false)), .bin .gtr (.t 10) (.c (.int .i64 64))⟩,
    ⟨(some 12), none, .pick (.t 9) (.c (.bool true)) (.t 11)⟩,
    ⟨(some 2), none, .mov (.t 12)⟩] (some [2]))
   (.ret)))
def F_model_Check_4 : F := ⟨i_model_Check_4, [(2, none)], false⟩
/-- stratagem/spans.Size -/
def b_spans_Size_0 : IR := .seq (.rg [⟨(some 12), none, .bin .lss (.t 11) (.t 10)⟩] (some [3, 9, 10, 11, 12]))
   (.seq (.cond (.t 12) (.skip) (.ext 0))
   (.seq (.blk 1 (.seq (.rg [⟨(some 13), none, .iad 2 (.t 9) (.t 11)⟩,
    ⟨(some 14), none, .ld true 2 (.t 13)⟩,
    ⟨(some 5), none, .new (.agg [.int .i64 0, .int .i64 0])⟩,
    ⟨none, none, .st 2 (.t 5) (.t 14)⟩] (some [3, 5, 9, 10, 11]))
   (.rg [⟨(some 15), none, .mov (.t 3)⟩,
    ⟨(some 16), none, .fad 1 (.t 5)⟩,
    ⟨(some 17), none, .ld false 1 (.t 16)⟩,
    ⟨(some 18), none, .fad 0 (.t 5)⟩,
    ⟨(some 19), none, .ld false 1 (.t 18)⟩,
    ⟨(some 20), none, .bin .sub (.t 17) (.t 19)⟩,
    ⟨(some 21), none, .bin .add (.t 20) (.c (.int .i64 1))⟩,
    ⟨(some 22), none, .bin .add (.t 15) (.t 21)⟩,
    ⟨(some 3), none, .mov (.t 22)⟩] (some [3, 9, 10, 11]))))
   (.rg [⟨(some 23), none, .bin .add (.t 11) (.c (.int .i64 1))⟩,
    ⟨(some 11), none, .mov (.t 23)⟩] (some [3, 9, 10, 11]))))
def i_spans_Size_l0 : IR := .loop b_spans_Size_0
theorem r_spans_Size_0 {C : Cx} {fr : Fr} {h : List Ob} : evw C i_spans_Size_l0 fr h = nxt (evw C b_spans_Size_0 fr h) fun fr h => evw C i_spans_Size_l0 fr h := w_loop
def i_spans_Size : IR := .seq (.rg [⟨(some 2), none, .mov (.c (.int .i64 0))⟩] (some [0]))
   (.seq (.seq (.rg [⟨(some 6), none, .mov (.t 0)⟩,
    ⟨(some 7), none, .call n_spans_Right [(.t 6)]⟩,
    ⟨(some 8), none, .un .not (.t 7)⟩] (some [0, 8]))
   (.cond (.t 8) (.seq (.rg [⟨(some 2), none, .mov (.c (.int .i64 0))⟩] (some [2]))
   (.ret)) (.skip)))
   (.seq (.rg [⟨(some 3), none, .mov (.c (.int .i64 0))⟩] (some [0, 3]))
   (.seq (.seq (.rg [⟨(some 9), none, .mov (.t 0)⟩,
    ⟨(some 10), none, .len (.t 9)⟩,
    ⟨(some 11), none, .mov (.c (.int .i64 0))⟩] (some [3, 9, 10, 11]))
   (.blk 0 (i_spans_Size_l0)))
   (.seq (.rg [⟨(some 24), none, .mov (.t 3)⟩,
    ⟨(some 2), none, .mov (.t 24)⟩] (some [2]))
   (.ret)))))
def F_spans_Size : F := ⟨i_spans_Size, [(2, none)], false⟩
/-- stratagem/model.wrong -/
def b_model_wrong_0 : IR := .seq (.rg [⟨(some 12), none, .bin .lss (.t 11) (.t 10)⟩] (some [1, 3, 9, 10, 11, 12]))
   (.seq (.cond (.t 12) (.skip) (.ext 0))
   (.seq (.blk 1 (.seq (.rg [⟨(some 13), none, .mov (.t 11)⟩,
    ⟨(some 14), none, .iad 3 (.t 9) (.t 11)⟩,
    ⟨(some 15), none, .ld true 3 (.t 14)⟩,
    ⟨(some 4), none, .new (.int .i64 0)⟩,
    ⟨(some 5), none, .new (.agg [.bool false, .nsl 2, .nsl 6])⟩,
    ⟨none, none, .st 1 (.t 4) (.t 13)⟩,
    ⟨none, none, .st 3 (.t 5) (.t 15)⟩] (some [1, 3, 4, 5, 9, 10, 11]))
   (.seq (.rg [⟨(some 16), none, .fad 2 (.t 5)⟩,
    ⟨(some 17), none, .ld false 1 (.t 16)⟩,
    ⟨(some 18), none, .mkf (.func n_model_wrong_1) [] [(.t 3), (.t 4)]⟩,
    ⟨(some 19), none, .call n_slices_ContainsFunc_sapi_Con_api_Con [(.t 17), (.t 18)]⟩] (some [1, 3, 9, 10, 11, 19]))
   (.cond (.t 19) (.seq (.rg [⟨(some 2), none, .mov (.c (.bool true))⟩] (some [2]))
   (.ret)) (.skip)))))
   (.rg [⟨(some 20), none, .bin .add (.t 11) (.c (.int .i64 1))⟩,
    ⟨(some 11), none, .mov (.t 20)⟩] (some [1, 3, 9, 10, 11]))))
def i_model_wrong_l0 : IR := .loop b_model_wrong_0
theorem r_model_wrong_0 {C : Cx} {fr : Fr} {h : List Ob} : evw C i_model_wrong_l0 fr h = nxt (evw C b_model_wrong_0 fr h) fun fr h => evw C i_model_wrong_l0 fr h := w_loop
def i_model_wrong : IR := .seq (.rg [⟨(some 1), none, .box (.t 0)⟩,
    ⟨(some 2), none, .mov (.c (.bool false))⟩] (some [1]))
   (.seq (.rg [⟨(some 6), none, .ld true 2 (.t 1)⟩,
    ⟨(some 7), none, .call n_model_Ends [(.t 6)]⟩,
    ⟨(some 3), none, .new (.nsl 1)⟩,
    ⟨none, none, .st 1 (.t 3) (.t 7)⟩] (some [1, 3]))
   (.seq (.seq (.rg [⟨(some 8), none, .fad 0 (.t 1)⟩,
    ⟨(some 9), none, .ld false 1 (.t 8)⟩,
    ⟨(some 10), none, .len (.t 9)⟩,
    ⟨(some 11), none, .mov (.c (.int .i64 0))⟩] (some [1, 3, 9, 10, 11]))
   (.blk 0 (i_model_wrong_l0)))
   (.seq (.rg [⟨(some 21), none, .fad 1 (.t 1)⟩,
    ⟨(some 22), none, .ld false 1 (.t 21)⟩,
    ⟨(some 23), none, .mkf (.func n_model_wrong_2) [] [(.t 3)]⟩,
    ⟨(some 24), none, .call n_slices_ContainsFunc_sapi_Con_api_Con [(.t 22), (.t 23)]⟩,
    ⟨(some 2), none, .mov (.t 24)⟩] (some [2]))
   (.ret))))
def F_model_wrong : F := ⟨i_model_wrong, [(2, none)], false⟩
/-- stratagem/stratagemref03.Size -/
def b_ref03_Size_0 : IR := .seq (.seq (.rg [⟨(some 5), none, .mov (.t 4)⟩,
    ⟨(some 6), none, .mov (.t 0)⟩,
    ⟨(some 7), none, .len (.t 6)⟩,
    ⟨(some 8), none, .bin .lss (.t 5) (.t 7)⟩,
    ⟨(some 9), none, .mov (.t 8)⟩,
    ⟨(some 10), (some (9, true)), .mov (.t 0)⟩,
    ⟨(some 11), (some (9, true)), .call n_ref03_Right [(.t 10)]⟩,
    ⟨(some 12), none, .pick (.t 9) (.t 11) (.c (.bool false))⟩] (some [0, 3, 4, 12]))
   (.cond (.t 12) (.skip) (.ext 0)))
   (.seq (.blk 1 (.dq [(⟨(some 15), none, .mov (.t 3)⟩, []),
    (⟨(some 16), none, .mov (.t 0)⟩, []),
    (⟨(some 17), none, .mov (.t 4)⟩, []),
    (⟨(some 18), none, .iad 2 (.t 16) (.t 17)⟩, [1, 2]),
    (⟨(some 19), none, .fad 1 (.t 18)⟩, [1, 2, 3]),
    (⟨(some 20), none, .ld false 1 (.t 19)⟩, [1, 2, 3, 4]),
    (⟨(some 21), none, .bin .add (.t 15) (.t 20)⟩, [0, 1, 2, 3, 4, 5]),
    (⟨(some 22), none, .bin .add (.t 21) (.c (.int .i64 1))⟩, [0, 1, 2, 3, 4, 5, 6]),
    (⟨(some 23), none, .mov (.t 0)⟩, []),
    (⟨(some 24), none, .mov (.t 4)⟩, []),
    (⟨(some 25), none, .iad 2 (.t 23) (.t 24)⟩, [8, 9]),
    (⟨(some 26), none, .fad 0 (.t 25)⟩, [8, 9, 10]),
    (⟨(some 27), none, .ld false 1 (.t 26)⟩, [8, 9, 10, 11]),
    (⟨(some 28), none, .bin .sub (.t 22) (.t 27)⟩, [0, 1, 2, 3, 4, 5, 6, 7, 8, 9, 10, 11, 12]),
    (⟨(some 3), none, .mov (.t 28)⟩, [0, 1, 2, 3, 4, 5, 6, 7, 8, 9, 10, 11, 12, 13])] (some [0, 3, 4])))
   (.rg [⟨(some 13), none, .mov (.t 4)⟩,
    ⟨(some 14), none, .bin .add (.t 13) (.c (.int .i64 1))⟩,
    ⟨(some 4), none, .mov (.t 14)⟩] (some [0, 3, 4])))
def i_ref03_Size_l0 : IR := .loop b_ref03_Size_0
theorem r_ref03_Size_0 {C : Cx} {fr : Fr} {h : List Ob} : evw C i_ref03_Size_l0 fr h = nxt (evw C b_ref03_Size_0 fr h) fun fr h => evw C i_ref03_Size_l0 fr h := w_loop
def i_ref03_Size : IR := .seq (.rg [⟨(some 2), none, .mov (.c (.int .i64 0))⟩] (some [0]))
   (.seq (.rg [⟨(some 3), none, .mov (.c (.int .i64 0))⟩] (some [0, 3]))
   (.seq (.seq (.rg [⟨(some 4), none, .mov (.c (.int .i64 0))⟩] (some [0, 3, 4]))
   (.blk 0 (i_ref03_Size_l0)))
   (.seq (.rg [⟨(some 29), none, .mov (.t 3)⟩,
    ⟨(some 2), none, .mov (.t 29)⟩] (some [2]))
   (.ret))))
def F_ref03_Size : F := ⟨i_ref03_Size, [(2, none)], false⟩
/-- strings.Contains -/
def i_strings_Contains : IR := .seq (.rg [⟨(some 4), none, .mov (.c (.bool false))⟩] (some [0, 1]))
   (.seq (.rg [⟨(some 5), none, .mov (.t 0)⟩,
    ⟨(some 6), none, .mov (.t 1)⟩,
    ⟨(some 7), none, .call n_strings_Index [(.t 5), (.t 6)]⟩,
    ⟨(some 8), none, .bin .geq (.t 7) (.c (.int .i64 0))⟩,
    ⟨(some 4), none, .mov (.t 8)⟩] (some [4]))
   (.ret))
def F_strings_Contains : F := ⟨i_strings_Contains, [(4, none)], false⟩
/-- strings.Trim -/
def i_strings_Trim : IR := .seq (.rg [⟨(some 4), none, .mov (.c (.str []))⟩] (some [0, 1]))
   (.seq (.seq (.rg [⟨(some 7), none, .mov (.t 0)⟩,
    ⟨(some 8), none, .bin .eql (.t 7) (.c (.str []))⟩,
    ⟨(some 9), none, .mov (.t 8)⟩,
    ⟨(some 10), (some (9, false)), .mov (.t 1)⟩,
    ⟨(some 11), (some (9, false)), .bin .eql (.t 10) (.c (.str []))⟩,
    ⟨(some 12), none, .pick (.t 9) (.c (.bool true)) (.t 11)⟩] (some [0, 1, 12]))
   (.cond (.t 12) (.seq (.rg [⟨(some 13), none, .mov (.t 0)⟩,
    ⟨(some 4), none, .mov (.t 13)⟩] (some [4]))
   (.ret)) (.skip)))
   (.seq (.seq (.rg [⟨(some 14), none, .mov (.t 1)⟩,
    ⟨(some 15), none, .slen (.t 14)⟩,
    ⟨(some 16), none, .bin .eql (.t 15) (.c (.int .i64 1))⟩,
    ⟨(some 17), none, .mov (.t 16)⟩,
    ⟨(some 18), (some (17, true)), .mov (.t 1)⟩,
    ⟨(some 19), (some (17, true)), .ixs (.t 18) (.c (.int .i64 0))⟩,
    ⟨(some 20), (some (17, true)), .bin .lss (.t 19) (.c (.int .u8 128))⟩,
    ⟨(some 21), none, .pick (.t 17) (.t 20) (.c (.bool false))⟩] (some [0, 1, 21]))
   (.cond (.t 21) (.seq (.dq [(⟨(some 22), none, .mov (.t 0)⟩, []),
    (⟨(some 23), none, .mov (.t 1)⟩, []),
    (⟨(some 24), none, .ixs (.t 23) (.c (.int .i64 0))⟩, [1]),
    (⟨(some 25), none, .call n_strings_trimRightByte [(.t 22), (.t 24)]⟩, [0, 1, 2]),
    (⟨(some 26), none, .mov (.t 1)⟩, []),
    (⟨(some 27), none, .ixs (.t 26) (.c (.int .i64 0))⟩, [4]),
    (⟨(some 28), none, .call n_strings_trimLeftByte [(.t 25), (.t 27)]⟩, [0, 1, 2, 3, 4, 5]),
    (⟨(some 4), none, .mov (.t 28)⟩, [0, 1, 2, 3, 4, 5, 6])] (some [4]))
   (.ret)) (.skip)))
   (.seq (.seq (.rg [⟨(some 30), none, .mov (.t 1)⟩,
    ⟨(some 31), none, .call n_strings_makeASCIISet [(.t 30)]⟩,
    ⟨(some 29), none, .mov (.t 31)⟩,
    ⟨(some 32), none, .ext (.t 29) 0⟩,
    ⟨(some 33), none, .ext (.t 29) 1⟩,
    ⟨(some 5), none, .new (.agg [.bool false, .bool false, .bool false, .bool false, .bool false, .bool false, .bool false, .bool false, .bool false, .bool false, .bool false, .bool false, .bool false, .bool false, .bool false, .bool false, .bool false, .bool false, .bool false, .bool false, .bool false, .bool false, .bool false, .bool false, .bool false, .bool false, .bool false, .bool false, .bool false, .bool false, .bool false, .bool false, .bool false, .bool false, .bool false, .bool false, .bool false, .bool false, .bool false, .bool false, .bool false, .bool false, .bool false, .bool false, .bool false, .bool false, .bool false, .bool false, .bool false, .bool false, .bool false, .bool false, .bool false, .bool false, .bool false, .bool false, .bool false, .bool false, .bool false, .bool false, .bool false, .bool false, .bool false, .bool false, .bool false, .bool false, .bool false, .bool false, .bool false, .bool false, .bool false, .bool false, .bool false, .bool false, .bool false, .bool false, .bool false, .bool false, .bool false, .bool false, .bool false, .bool false, .bool false, .bool false, .bool false, .bool false, .bool false, .bool false, .bool false, .bool false, .bool false, .bool false, .bool false, .bool false, .bool false, .bool false, .bool false, .bool false, .bool false, .bool false, .bool false, .bool false, .bool false, .bool false, .bool false, .bool false, .bool false, .bool false, .bool false, .bool false, .bool false, .bool false, .bool false, .bool false, .bool false, .bool false, .bool false, .bool false, .bool false, .bool false, .bool false, .bool false, .bool false, .bool false, .bool false, .bool false, .bool false, .bool false, .bool false, .bool false, .bool false, .bool false, .bool false, .bool false, .bool false, .bool false, .bool false, .bool false, .bool false, .bool false, .bool false, .bool false, .bool false, .bool false, .bool false, .bool false, .bool false, .bool false, .bool false, .bool false, .bool false, .bool false, .bool false, .bool false, .bool false, .bool false, .bool false, .bool false, .bool false, .bool false, .bool false, .bool false, .bool false, .bool false, .bool false, .bool false, .bool false, .bool false, .bool false, .bool false, .bool false, .bool false, .bool false, .bool false, .bool false, .bool false, .bool false, .bool false, .bool false, .bool false, .bool false, .bool false, .bool false, .bool false, .bool false, .bool false, .bool false, .bool false, .bool false, .bool false, .bool false, .bool false, .bool false, .bool false, .bool false, .bool false, .bool false, .bool false, .bool false, .bool false, .bool false, .bool false, .bool false, .bool false, .bool false, .bool false, .bool false, .bool false, .bool false, .bool false, .bool false, .bool false, .bool false, .bool false, .bool false, .bool false, .bool false, .bool false, .bool false, .bool false, .bool false, .bool false, .bool false, .bool false, .bool false, .bool false, .bool false, .bool false, .bool false, .bool false, .bool false, .bool false, .bool false, .bool false, .bool false, .bool false, .bool false, .bool false, .bool false, .bool false, .bool false, .bool false, .bool false, .bool false, .bool false, .bool false, .bool false, .bool false, .bool false, .bool false, .bool false, .bool false, .bool false, .bool false, .bool false, .bool false])⟩,
    ⟨none, none, .st 256 (.t 5) (.t 32)⟩,
    ⟨(some 6), none, .mov (.t 33)⟩] (some [0, 1, 5, 6]))
   (.seq (.rg [⟨(some 34), none, .mov (.t 6)⟩] (some [0, 1, 5, 34]))
   (.cond (.t 34) (.seq (.rg [⟨(some 35), none, .mov (.t 0)⟩,
    ⟨(some 36), none, .call n_strings_trimRightASCII [(.t 35), (.t 5)]⟩,
    ⟨(some 37), none, .call n_strings_trimLeftASCII [(.t 36), (.t 5)]⟩,
    ⟨(some 4), none, .mov (.t 37)⟩] (some [4]))
   (.ret)) (.skip))))
   (.seq (.rg [⟨(some 38), none, .mov (.t 0)⟩,
    ⟨(some 39), none, .mov (.t 1)⟩,
    ⟨(some 40), none, .call n_strings_trimRightUnicode [(.t 38), (.t 39)]⟩,
    ⟨(some 41), none, .mov (.t 1)⟩,
    ⟨(some 42), none, .call n_strings_trimLeftUnicode [(.t 40), (.t 41)]⟩,
    ⟨(some 4), none, .mov (.t 42)⟩] (some [4]))
   (.ret)))))
def F_strings_Trim : F := ⟨i_strings_Trim, [(4, none)], false⟩
/-- (stratagem/model.looker).linear -/
def i_model_looker_linear : IR := .seq (.rg [⟨(some 1), none, .box (.t 0)⟩,
    ⟨(some 2), none, .mov (.c (.bool false))⟩] (some [1]))
   (.seq (.rg [⟨(some 3), none, .ld true 7 (.t 1)⟩,
    ⟨(some 4), none, .call n_model_looker_variables [(.t 3), (.c (.int .i64 1)), (.c (.int .i64 8))]⟩,
    ⟨(some 5), none, .mov (.t 4)⟩,
    ⟨(some 6), (some (5, true)), .ld true 7 (.t 1)⟩,
    ⟨(some 7), (some (5, true)), .call n_model_looker_sum [(.t 6), (.c (.int .i64 0))]⟩,
    ⟨(some 8), none, .pick (.t 5) (.t 7) (.c (.bool false))⟩,
    ⟨(some 2), none, .mov (.t 8)⟩] (some [2]))
   (.ret))
def F_model_looker_linear : F := ⟨i_model_looker_linear, [(2, none)], false⟩
/-- (stratagem/model.looker).product -/
def i_model_looker_product : IR := .seq (.rg [⟨(some 1), none, .box (.t 0)⟩,
    ⟨(some 2), none, .mov (.c (.bool false))⟩] (some [1]))
   (.seq (.rg [⟨(some 3), none, .ld true 7 (.t 1)⟩,
    ⟨(some 4), none, .call n_model_looker_variables [(.t 3), (.c (.int .i64 3)), (.c (.int .i64 3))]⟩,
    ⟨(some 5), none, .mov (.t 4)⟩,
    ⟨(some 6), (some (5, true)), .ld true 7 (.t 1)⟩,
    ⟨(some 7), (some (5, true)), .call n_model_looker_bare [(.t 6), (.c (.int .i64 0)), (.c (.int .i64 0))]⟩,
    ⟨(some 8), none, .pick (.t 5) (.t 7) (.c (.bool false))⟩,
    ⟨(some 2), none, .mov (.t 8)⟩] (some [2]))
   (.ret))
def F_model_looker_product : F := ⟨i_model_looker_product, [(2, none)], false⟩
/-- (stratagem/model.looker).iff -/
def i_model_looker_iff : IR := .seq (.rg [⟨(some 1), none, .box (.t 0)⟩,
    ⟨(some 2), none, .mov (.c (.bool false))⟩] (some [1]))
   (.seq (.rg [⟨(some 3), none, .ld true 7 (.t 1)⟩,
    ⟨(some 4), none, .call n_model_looker_variables [(.t 3), (.c (.int .i64 2)), (.c (.int .i64 9))]⟩,
    ⟨(some 5), none, .mov (.t 4)⟩,
    ⟨(some 6), (some (5, true)), .ld true 7 (.t 1)⟩,
    ⟨(some 7), (some (5, true)), .call n_model_looker_sum [(.t 6), (.c (.int .i64 1))]⟩,
    ⟨(some 8), none, .pick (.t 5) (.t 7) (.c (.bool false))⟩,
    ⟨(some 2), none, .mov (.t 8)⟩] (some [2]))
   (.ret))
def F_model_looker_iff : F := ⟨i_model_looker_iff, [(2, none)], false⟩
/-- (stratagem/model.looker).element -/
def i_model_looker_element : IR := .seq (.rg [⟨(some 1), none, .box (.t 0)⟩,
    ⟨(some 2), none, .mov (.c (.bool false))⟩] (some [1]))
   (.seq (.rg [⟨(some 3), none, .ld true 7 (.t 1)⟩,
    ⟨(some 4), none, .call n_model_looker_variables [(.t 3), (.c (.int .i64 2)), (.c (.int .i64 2))]⟩,
    ⟨(some 5), none, .mov (.t 4)⟩,
    ⟨(some 6), (some (5, true)), .ld true 7 (.t 1)⟩,
    ⟨(some 7), (some (5, true)), .call n_model_looker_bare [(.t 6), (.c (.int .i64 1)), (.c (.int .i64 96))]⟩,
    ⟨(some 8), none, .pick (.t 5) (.t 7) (.c (.bool false))⟩,
    ⟨(some 2), none, .mov (.t 8)⟩] (some [2]))
   (.ret))
def F_model_looker_element : F := ⟨i_model_looker_element, [(2, none)], false⟩
/-- (stratagem/model.looker).differ -/
def i_model_looker_differ : IR := .seq (.rg [⟨(some 1), none, .box (.t 0)⟩,
    ⟨(some 2), none, .mov (.c (.bool false))⟩] (some [1]))
   (.seq (.rg [⟨(some 3), none, .ld true 7 (.t 1)⟩,
    ⟨(some 4), none, .call n_model_looker_variables [(.t 3), (.c (.int .i64 2)), (.c (.int .i64 8))]⟩,
    ⟨(some 5), none, .mov (.t 4)⟩,
    ⟨(some 6), (some (5, true)), .ld true 7 (.t 1)⟩,
    ⟨(some 7), (some (5, true)), .call n_model_looker_bare [(.t 6), (.c (.int .i64 0)), (.c (.int .i64 0))]⟩,
    ⟨(some 8), none, .pick (.t 5) (.t 7) (.c (.bool false))⟩,
    ⟨(some 2), none, .mov (.t 8)⟩] (some [2]))
   (.ret))
def F_model_looker_differ : F := ⟨i_model_looker_differ, [(2, none)], false⟩
/-- (stratagem/model.looker).table -/
def i_model_looker_table : IR := .seq (.rg [⟨(some 1), none, .box (.t 0)⟩,
    ⟨(some 2), none, .mov (.c (.bool false))⟩] (some [1]))
   (.seq (.rg [⟨(some 3), none, .ld true 7 (.t 1)⟩,
    ⟨(some 4), none, .call n_model_looker_variables [(.t 3), (.c (.int .i64 1)), (.c (.int .i64 8))]⟩,
    ⟨(some 5), none, .mov (.t 4)⟩,
    ⟨(some 6), (some (5, true)), .ld true 7 (.t 1)⟩,
    ⟨(some 7), (some (5, true)), .call n_model_looker_bare [(.t 6), (.c (.int .i64 0)), (.c (.int .i64 96))]⟩,
    ⟨(some 8), none, .pick (.t 5) (.t 7) (.c (.bool false))⟩,
    ⟨(some 9), none, .mov (.t 8)⟩,
    ⟨(some 10), (some (9, true)), .fad 0 (.t 1)⟩,
    ⟨(some 11), (some (9, true)), .fad 5 (.t 10)⟩,
    ⟨(some 12), (some (9, true)), .ld false 1 (.t 11)⟩,
    ⟨(some 13), (some (9, true)), .len (.t 12)⟩,
    ⟨(some 14), (some (9, true)), .fad 0 (.t 1)⟩,
    ⟨(some 15), (some (9, true)), .fad 1 (.t 14)⟩,
    ⟨(some 16), (some (9, true)), .ld false 1 (.t 15)⟩,
    ⟨(some 17), (some (9, true)), .len (.t 16)⟩,
    ⟨(some 18), (some (9, true)), .bin .rem (.t 13) (.t 17)⟩,
    ⟨(some 19), (some (9, true)), .bin .eql (.t 18) (.c (.int .i64 0))⟩,
    ⟨(some 20), none, .pick (.t 9) (.t 19) (.c (.bool false))⟩,
    ⟨(some 2), none, .mov (.t 20)⟩] (some [2]))
   (.ret))
def F_model_looker_table : F := ⟨i_model_looker_table, [(2, none)], false⟩
/-- stratagem/stratagemref08.all -/
def b_ref08_all_0 : IR := .seq (.seq (.rg [⟨(some 6), none, .mov (.t 5)⟩,
    ⟨(some 7), none, .mov (.t 0)⟩,
    ⟨(some 8), none, .len (.t 7)⟩,
    ⟨(some 9), none, .bin .lss (.t 6) (.t 8)⟩] (some [0, 1, 5, 9]))
   (.cond (.t 9) (.skip) (.ext 0)))
   (.seq (.blk 1 (.seq (.rg [⟨(some 12), none, .mov (.t 0)⟩,
    ⟨(some 13), none, .mov (.t 5)⟩,
    ⟨(some 14), none, .iad 1 (.t 12) (.t 13)⟩,
    ⟨(some 15), none, .ld false 1 (.t 14)⟩,
    ⟨(some 16), none, .mov (.t 1)⟩,
    ⟨(some 17), none, .un .neg (.t 16)⟩,
    ⟨(some 18), none, .bin .lss (.t 15) (.t 17)⟩,
    ⟨(some 19), none, .mov (.t 18)⟩,
    ⟨(some 20), (some (19, false)), .mov (.t 0)⟩,
    ⟨(some 21), (some (19, false)), .mov (.t 5)⟩,
    ⟨(some 22), (some (19, false)), .iad 1 (.t 20) (.t 21)⟩,
    ⟨(some 23), (some (19, false)), .ld false 1 (.t 22)⟩,
    ⟨(some 24), (some (19, false)), .mov (.t 1)⟩,
    ⟨(some 25), (some (19, false)), .bin .gtr (.t 23) (.t 24)⟩,
    ⟨(some 26), none, .pick (.t 19) (.c (.bool true)) (.t 25)⟩] (some [0, 1, 5, 26]))
   (.cond (.t 26) (.seq (.rg [⟨(some 4), none, .mov (.c (.bool false))⟩] (some [4]))
   (.ret)) (.skip))))
   (.rg [⟨(some 10), none, .mov (.t 5)⟩,
    ⟨(some 11), none, .bin .add (.t 10) (.c (.int .i64 1))⟩,
    ⟨(some 5), none, .mov (.t 11)⟩] (some [0, 1, 5])))
def i_ref08_all_l0 : IR := .loop b_ref08_all_0
theorem r_ref08_all_0 {C : Cx} {fr : Fr} {h : List Ob} : evw C i_ref08_all_l0 fr h = nxt (evw C b_ref08_all_0 fr h) fun fr h => evw C i_ref08_all_l0 fr h := w_loop
def i_ref08_all : IR := .seq (.rg [⟨(some 4), none, .mov (.c (.bool false))⟩] (some [0, 1]))
   (.seq (.seq (.rg [⟨(some 5), none, .mov (.c (.int .i64 0))⟩] (some [0, 1, 5]))
   (.blk 0 (i_ref08_all_l0)))
   (.seq (.rg [⟨(some 4), none, .mov (.c (.bool true))⟩] (some [4]))
   (.ret)))
def F_ref08_all : F := ⟨i_ref08_all, [(4, none)], false⟩
/-- stratagem/model.Same$1 -/
def i_model_Same_1 : IR := .seq (.rg [⟨(some 2), none, .box (.t 0)⟩,
    ⟨(some 3), none, .box (.t 1)⟩,
    ⟨(some 4), none, .mov (.c (.bool false))⟩] (some [2, 3]))
   (.seq (.rg [⟨(some 5), none, .fad 0 (.t 2)⟩,
    ⟨(some 6), none, .ld false 1 (.t 5)⟩,
    ⟨(some 7), none, .fad 0 (.t 3)⟩,
    ⟨(some 8), none, .ld false 1 (.t 7)⟩,
    ⟨(some 9), none, .bin .eql (.t 6) (.t 8)⟩,
    ⟨(some 10), none, .mov (.t 9)⟩,
    ⟨(some 11), (some (10, true)), .fad 1 (.t 2)⟩,
    ⟨(some 12), (some (10, true)), .ld false 1 (.t 11)⟩,
    ⟨(some 13), (some (10, true)), .fad 1 (.t 3)⟩,
    ⟨(some 14), (some (10, true)), .ld false 1 (.t 13)⟩,
    ⟨(some 15), (some (10, true)), .call n_slices_Equal_sapi_Span_api_Span [(.t 12), (.t 14)]⟩,
    ⟨(some 16), none, .pick (.t 10) (.t 15) (.c (.bool false))⟩,
    ⟨(some 4), none, .mov (.t 16)⟩] (some [4]))
   (.ret))
def F_model_Same_1 : F := ⟨i_model_Same_1, [(4, none)], false⟩
/-- slices.Equal[[]stratagem/api.Span,stratagem/api.Span] -/
def b_slices_Equal_sapi_Span_api_Span_0 : IR := .seq (.rg [⟨(some 14), none, .bin .lss (.t 13) (.t 12)⟩] (some [0, 1, 12, 13, 14]))
   (.seq (.cond (.t 14) (.skip) (.ext 0))
   (.seq (.blk 1 (.seq (.rg [⟨(some 15), none, .mov (.t 13)⟩,
    ⟨(some 5), none, .mov (.t 15)⟩] (some [0, 1, 5, 12, 13]))
   (.seq (.dq [(⟨(some 16), none, .mov (.t 0)⟩, []),
    (⟨(some 17), none, .mov (.t 5)⟩, []),
    (⟨(some 18), none, .iad 2 (.t 16) (.t 17)⟩, [0, 1]),
    (⟨(some 19), none, .ld true 2 (.t 18)⟩, [0, 1, 2]),
    (⟨(some 20), none, .mov (.t 1)⟩, []),
    (⟨(some 21), none, .mov (.t 5)⟩, []),
    (⟨(some 22), none, .iad 2 (.t 20) (.t 21)⟩, [4, 5]),
    (⟨(some 23), none, .ld true 2 (.t 22)⟩, [4, 5, 6]),
    (⟨(some 24), none, .eq true (.agg [(0, 1, .int), (1, 1, .int)]) (.t 19) (.t 23)⟩, [0, 1, 2, 3, 4, 5, 6, 7])] (some [0, 1, 12, 13, 24]))
   (.cond (.t 24) (.seq (.rg [⟨(some 4), none, .mov (.c (.bool false))⟩] (some [4]))
   (.ret)) (.skip)))))
   (.rg [⟨(some 25), none, .bin .add (.t 13) (.c (.int .i64 1))⟩,
    ⟨(some 13), none, .mov (.t 25)⟩] (some [0, 1, 12, 13]))))
def i_slices_Equal_sapi_Span_api_Span_l0 : IR := .loop b_slices_Equal_sapi_Span_api_Span_0
theorem r_slices_Equal_sapi_Span_api_Span_0 {C : Cx} {fr : Fr} {h : List Ob} : evw C i_slices_Equal_sapi_Span_api_Span_l0 fr h = nxt (evw C b_slices_Equal_sapi_Span_api_Span_0 fr h) fun fr h => evw C i_slices_Equal_sapi_Span_api_Span_l0 fr h := w_loop
def i_slices_Equal_sapi_Span_api_Span : IR := .seq (.rg [⟨(some 4), none, .mov (.c (.bool false))⟩] (some [0, 1]))
   (.seq (.seq (.rg [⟨(some 6), none, .mov (.t 0)⟩,
    ⟨(some 7), none, .len (.t 6)⟩,
    ⟨(some 8), none, .mov (.t 1)⟩,
    ⟨(some 9), none, .len (.t 8)⟩,
    ⟨(some 10), none, .bin .neq (.t 7) (.t 9)⟩] (some [0, 1, 10]))
   (.cond (.t 10) (.seq (.rg [⟨(some 4), none, .mov (.c (.bool false))⟩] (some [4]))
   (.ret)) (.skip)))
   (.seq (.seq (.rg [⟨(some 11), none, .mov (.t 0)⟩,
    ⟨(some 12), none, .len (.t 11)⟩,
    ⟨(some 13), none, .mov (.c (.int .i64 0))⟩] (some [0, 1, 12, 13]))
   (.blk 0 (i_slices_Equal_sapi_Span_api_Span_l0)))
   (.seq (.rg [⟨(some 4), none, .mov (.c (.bool true))⟩] (some [4]))
   (.ret))))
def F_slices_Equal_sapi_Span_api_Span : F := ⟨i_slices_Equal_sapi_Span_api_Span, [(4, none)], false⟩
/-- stratagem/model.Same$2 -/
def i_model_Same_2 : IR := .seq (.rg [⟨(some 3), none, .box (.t 0)⟩,
    ⟨(some 4), none, .box (.t 1)⟩,
    ⟨(some 5), none, .mov (.c (.bool false))⟩] (some [2, 3, 4]))
   (.seq (.rg [⟨(some 6), none, .fad 0 (.t 3)⟩,
    ⟨(some 7), none, .ld false 1 (.t 6)⟩,
    ⟨(some 8), none, .fad 0 (.t 4)⟩,
    ⟨(some 9), none, .ld false 1 (.t 8)⟩,
    ⟨(some 10), none, .eq false .bool (.t 7) (.t 9)⟩,
    ⟨(some 11), none, .mov (.t 10)⟩,
    ⟨(some 12), (some (11, true)), .fad 1 (.t 3)⟩,
    ⟨(some 13), (some (11, true)), .ld false 1 (.t 12)⟩,
    ⟨(some 14), (some (11, true)), .fad 1 (.t 4)⟩,
    ⟨(some 15), (some (11, true)), .ld false 1 (.t 14)⟩,
    ⟨(some 16), (some (11, true)), .ld false 1 (.t 2)⟩,
    ⟨(some 17), (some (11, true)), .call n_slices_EqualFunc_sapi_Decl_sapi_Decl_api_Decl_api_Decl [(.t 13), (.t 15), (.t 16)]⟩,
    ⟨(some 18), none, .pick (.t 11) (.t 17) (.c (.bool false))⟩,
    ⟨(some 19), none, .mov (.t 18)⟩,
    ⟨(some 20), (some (19, true)), .fad 2 (.t 3)⟩,
    ⟨(some 21), (some (19, true)), .ld false 1 (.t 20)⟩,
    ⟨(some 22), (some (19, true)), .fad 2 (.t 4)⟩,
    ⟨(some 23), (some (19, true)), .ld false 1 (.t 22)⟩,
    ⟨(some 24), (some (19, true)), .call n_slices_EqualFunc_sapi_Con_sapi_Con_api_Con_api_Con [(.t 21), (.t 23), (.c (.fn (.func n_model_alike) [] []))]⟩,
    ⟨(some 25), none, .pick (.t 19) (.t 24) (.c (.bool false))⟩,
    ⟨(some 5), none, .mov (.t 25)⟩] (some [5]))
   (.ret))
def F_model_Same_2 : F := ⟨i_model_Same_2, [(5, none)], false⟩
/-- slices.EqualFunc[[]stratagem/api.Decl,[]stratagem/api.Decl,stratagem/api.Decl,stratagem/api.Decl] -/
def b_slices_EqualFunc_sapi_Decl_sapi_Decl_api_Decl_api_Decl_0 : IR := .seq (.rg [⟨(some 18), none, .bin .lss (.t 17) (.t 16)⟩] (some [1, 2, 15, 16, 17, 18]))
   (.seq (.cond (.t 18) (.skip) (.ext 0))
   (.seq (.blk 1 (.seq (.rg [⟨(some 19), none, .mov (.t 17)⟩,
    ⟨(some 20), none, .iad 2 (.t 15) (.t 17)⟩,
    ⟨(some 21), none, .ld true 2 (.t 20)⟩,
    ⟨(some 8), none, .new (.agg [.str [], .nsl 2])⟩,
    ⟨(some 7), none, .mov (.t 19)⟩,
    ⟨none, none, .st 2 (.t 8) (.t 21)⟩] (some [1, 2, 7, 8, 15, 16, 17]))
   (.seq (.rg [⟨(some 22), none, .mov (.t 1)⟩,
    ⟨(some 23), none, .mov (.t 7)⟩,
    ⟨(some 24), none, .iad 2 (.t 22) (.t 23)⟩,
    ⟨(some 25), none, .ld true 2 (.t 24)⟩,
    ⟨(some 9), none, .new (.agg [.str [], .nsl 2])⟩,
    ⟨none, none, .st 2 (.t 9) (.t 25)⟩] (some [1, 2, 8, 9, 15, 16, 17]))
   (.seq (.rg [⟨(some 26), none, .mov (.t 2)⟩,
    ⟨(some 27), none, .ld true 2 (.t 8)⟩,
    ⟨(some 28), none, .ld true 2 (.t 9)⟩,
    ⟨(some 29), none, .callv (.t 26) [(.t 27), (.t 28)]⟩,
    ⟨(some 30), none, .un .not (.t 29)⟩] (some [1, 2, 15, 16, 17, 30]))
   (.cond (.t 30) (.seq (.rg [⟨(some 6), none, .mov (.c (.bool false))⟩] (some [6]))
   (.ret)) (.skip))))))
   (.rg [⟨(some 31), none, .bin .add (.t 17) (.c (.int .i64 1))⟩,
    ⟨(some 17), none, .mov (.t 31)⟩] (some [1, 2, 15, 16, 17]))))
def i_slices_EqualFunc_sapi_Decl_sapi_Decl_api_Decl_api_Decl_l0 : IR := .loop b_slices_EqualFunc_sapi_Decl_sapi_Decl_api_Decl_api_Decl_0
theorem r_slices_EqualFunc_sapi_Decl_sapi_Decl_api_Decl_api_Decl_0 {C : Cx} {fr : Fr} {h : List Ob} : evw C i_slices_EqualFunc_sapi_Decl_sapi_Decl_api_Decl_api_Decl_l0 fr h = nxt (evw C b_slices_EqualFunc_sapi_Decl_sapi_Decl_api_Decl_api_Decl_0 fr h) fun fr h => evw C i_slices_EqualFunc_sapi_Decl_sapi_Decl_api_Decl_api_Decl_l0 fr h := w_loop
def i_slices_EqualFunc_sapi_Decl_sapi_Decl_api_Decl_api_Decl : IR := .seq (.rg [⟨(some 6), none, .mov (.c (.bool false))⟩] (some [0, 1, 2]))
   (.seq (.seq (.rg [⟨(some 10), none, .mov (.t 0)⟩,
    ⟨(some 11), none, .len (.t 10)⟩,
    ⟨(some 12), none, .mov (.t 1)⟩,
    ⟨(some 13), none, .len (.t 12)⟩,
    ⟨(some 14), none, .bin .neq (.t 11) (.t 13)⟩] (some [0, 1, 2, 14]))
   (.cond (.t 14) (.seq (.rg [⟨(some 6), none, .mov (.c (.bool false))⟩] (some [6]))
   (.ret)) (.skip)))
   (.seq (.seq (.rg [⟨(some 15), none, .mov (.t 0)⟩,
    ⟨(some 16), none, .len (.t 15)⟩,
    ⟨(some 17), none, .mov (.c (.int .i64 0))⟩] (some [1, 2, 15, 16, 17]))
   (.blk 0 (i_slices_EqualFunc_sapi_Decl_sapi_Decl_api_Decl_api_Decl_l0)))
   (.seq (.rg [⟨(some 6), none, .mov (.c (.bool true))⟩] (some [6]))
   (.ret))))
def F_slices_EqualFunc_sapi_Decl_sapi_Decl_api_Decl_api_Decl : F := ⟨i_slices_EqualFunc_sapi_Decl_sapi_Decl_api_Decl_api_Decl, [(6, none)], false⟩
/-- slices.EqualFunc[[]stratagem/api.Con,[]stratagem/api.Con,stratagem/api.Con,stratagem/api.Con] -/
def b_slices_EqualFunc_sapi_Con_sapi_Con_api_Con_api_Con_0 : IR := .seq (.rg [⟨(some 18), none, .bin .lss (.t 17) (.t 16)⟩] (some [1, 2, 15, 16, 17, 18]))
   (.seq (.cond (.t 18) (.skip) (.ext 0))
   (.seq (.blk 1 (.seq (.rg [⟨(some 19), none, .mov (.t 17)⟩,
    ⟨(some 20), none, .iad 6 (.t 15) (.t 17)⟩,
    ⟨(some 21), none, .ld true 6 (.t 20)⟩,
    ⟨(some 8), none, .new (.agg [.int .i64 0, .nsl 1, .nsl 1, .int .i64 0, .int .i64 0, .nsl 1])⟩,
    ⟨(some 7), none, .mov (.t 19)⟩,
    ⟨none, none, .st 6 (.t 8) (.t 21)⟩] (some [1, 2, 7, 8, 15, 16, 17]))
   (.seq (.rg [⟨(some 22), none, .mov (.t 1)⟩,
    ⟨(some 23), none, .mov (.t 7)⟩,
    ⟨(some 24), none, .iad 6 (.t 22) (.t 23)⟩,
    ⟨(some 25), none, .ld true 6 (.t 24)⟩,
    ⟨(some 9), none, .new (.agg [.int .i64 0, .nsl 1, .nsl 1, .int .i64 0, .int .i64 0, .nsl 1])⟩,
    ⟨none, none, .st 6 (.t 9) (.t 25)⟩] (some [1, 2, 8, 9, 15, 16, 17]))
   (.seq (.rg [⟨(some 26), none, .mov (.t 2)⟩,
    ⟨(some 27), none, .ld true 6 (.t 8)⟩,
    ⟨(some 28), none, .ld true 6 (.t 9)⟩,
    ⟨(some 29), none, .callv (.t 26) [(.t 27), (.t 28)]⟩,
    ⟨(some 30), none, .un .not (.t 29)⟩] (some [1, 2, 15, 16, 17, 30]))
   (.cond (.t 30) (.seq (.rg [⟨(some 6), none, .mov (.c (.bool false))⟩] (some [6]))
   (.ret)) (.skip))))))
   (.rg [⟨(some 31), none, .bin .add (.t 17) (.c (.int .i64 1))⟩,
    ⟨(some 17), none, .mov (.t 31)⟩] (some [1, 2, 15, 16, 17]))))
def i_slices_EqualFunc_sapi_Con_sapi_Con_api_Con_api_Con_l0 : IR := .loop b_slices_EqualFunc_sapi_Con_sapi_Con_api_Con_api_Con_0
theorem r_slices_EqualFunc_sapi_Con_sapi_Con_api_Con_api_Con_0 {C : Cx} {fr : Fr} {h : List Ob} : evw C i_slices_EqualFunc_sapi_Con_sapi_Con_api_Con_api_Con_l0 fr h = nxt (evw C b_slices_EqualFunc_sapi_Con_sapi_Con_api_Con_api_Con_0 fr h) fun fr h => evw C i_slices_EqualFunc_sapi_Con_sapi_Con_api_Con_api_Con_l0 fr h := w_loop
def i_slices_EqualFunc_sapi_Con_sapi_Con_api_Con_api_Con : IR := .seq (.rg [⟨(some 6), none, .mov (.c (.bool false))⟩] (some [0, 1, 2]))
   (.seq (.seq (.rg [⟨(some 10), none, .mov (.t 0)⟩,
    ⟨(some 11), none, .len (.t 10)⟩,
    ⟨(some 12), none, .mov (.t 1)⟩,
    ⟨(some 13), none, .len (.t 12)⟩,
    ⟨(some 14), none, .bin .neq (.t 11) (.t 13)⟩] (some [0, 1, 2, 14]))
   (.cond (.t 14) (.seq (.rg [⟨(some 6), none, .mov (.c (.bool false))⟩] (some [6]))
   (.ret)) (.skip)))
   (.seq (.seq (.rg [⟨(some 15), none, .mov (.t 0)⟩,
    ⟨(some 16), none, .len (.t 15)⟩,
    ⟨(some 17), none, .mov (.c (.int .i64 0))⟩] (some [1, 2, 15, 16, 17]))
   (.blk 0 (i_slices_EqualFunc_sapi_Con_sapi_Con_api_Con_api_Con_l0)))
   (.seq (.rg [⟨(some 6), none, .mov (.c (.bool true))⟩] (some [6]))
   (.ret))))
def F_slices_EqualFunc_sapi_Con_sapi_Con_api_Con_api_Con : F := ⟨i_slices_EqualFunc_sapi_Con_sapi_Con_api_Con_api_Con, [(6, none)], false⟩
/-- stratagem/model.alike -/
def i_model_alike : IR := .seq (.rg [⟨(some 2), none, .box (.t 0)⟩,
    ⟨(some 3), none, .box (.t 1)⟩,
    ⟨(some 4), none, .mov (.c (.bool false))⟩] (some [2, 3]))
   (.seq (.rg [⟨(some 5), none, .fad 0 (.t 2)⟩,
    ⟨(some 6), none, .ld false 1 (.t 5)⟩,
    ⟨(some 7), none, .fad 0 (.t 3)⟩,
    ⟨(some 8), none, .ld false 1 (.t 7)⟩,
    ⟨(some 9), none, .bin .eql (.t 6) (.t 8)⟩,
    ⟨(some 10), none, .mov (.t 9)⟩,
    ⟨(some 11), (some (10, true)), .fad 3 (.t 2)⟩,
    ⟨(some 12), (some (10, true)), .ld false 1 (.t 11)⟩,
    ⟨(some 13), (some (10, true)), .fad 3 (.t 3)⟩,
    ⟨(some 14), (some (10, true)), .ld false 1 (.t 13)⟩,
    ⟨(some 15), (some (10, true)), .bin .eql (.t 12) (.t 14)⟩,
    ⟨(some 16), none, .pick (.t 10) (.t 15) (.c (.bool false))⟩,
    ⟨(some 17), none, .mov (.t 16)⟩,
    ⟨(some 18), (some (17, true)), .fad 4 (.t 2)⟩,
    ⟨(some 19), (some (17, true)), .ld false 1 (.t 18)⟩,
    ⟨(some 20), (some (17, true)), .fad 4 (.t 3)⟩,
    ⟨(some 21), (some (17, true)), .ld false 1 (.t 20)⟩,
    ⟨(some 22), (some (17, true)), .bin .eql (.t 19) (.t 21)⟩,
    ⟨(some 23), none, .pick (.t 17) (.t 22) (.c (.bool false))⟩,
    ⟨(some 24), none, .mov (.t 23)⟩,
    ⟨(some 25), (some (24, true)), .fad 1 (.t 2)⟩,
    ⟨(some 26), (some (24, true)), .ld false 1 (.t 25)⟩,
    ⟨(some 27), (some (24, true)), .fad 1 (.t 3)⟩,
    ⟨(some 28), (some (24, true)), .ld false 1 (.t 27)⟩,
    ⟨(some 29), (some (24, true)), .call n_slices_Equal_sint_int [(.t 26), (.t 28)]⟩,
    ⟨(some 30), none, .pick (.t 24) (.t 29) (.c (.bool false))⟩,
    ⟨(some 31), none, .mov (.t 30)⟩,
    ⟨(some 32), (some (31, true)), .fad 2 (.t 2)⟩,
    ⟨(some 33), (some (31, true)), .ld false 1 (.t 32)⟩,
    ⟨(some 34), (some (31, true)), .fad 2 (.t 3)⟩,
    ⟨(some 35), (some (31, true)), .ld false 1 (.t 34)⟩,
    ⟨(some 36), (some (31, true)), .call n_slices_Equal_sint_int [(.t 33), (.t 35)]⟩,
    ⟨(some 37), none, .pick (.t 31) (.t 36) (.c (.bool false))⟩,
    ⟨(some 38), none, .mov (.t 37)⟩,
    ⟨(some 39), (some (38, true)), .fad 5 (.t 2)⟩,
    ⟨(some 40), (some (38, true)), .ld false 1 (.t 39)⟩,
    ⟨(some 41), (some (38, true)), .fad 5 (.t 3)⟩,
    ⟨(some 42), (some (38, true)), .ld false 1 (.t 41)⟩,
    ⟨(some 43), (some (38, true)), .call n_slices_Equal_sint_int [(.t 40), (.t 42)]⟩,
    ⟨(some 44), none, .pick (.t 38) (.t 43) (.c (.bool false))⟩,
    ⟨(some 4), none, .mov (.t 44)⟩] (some [4]))
   (.ret))
def F_model_alike : F := ⟨i_model_alike, [(4, none)], false⟩
/-- slices.EqualFunc[[]stratagem/api.Block,[]stratagem/api.Block,stratagem/api.Block,stratagem/api.Block] -/
def b_slices_EqualFunc_sapi_Block_sapi_Block_api_Block_api_Block_0 : IR := .seq (.rg [⟨(some 18), none, .bin .lss (.t 17) (.t 16)⟩] (some [1, 2, 15, 16, 17, 18]))
   (.seq (.cond (.t 18) (.skip) (.ext 0))
   (.seq (.blk 1 (.seq (.rg [⟨(some 19), none, .mov (.t 17)⟩,
    ⟨(some 20), none, .iad 3 (.t 15) (.t 17)⟩,
    ⟨(some 21), none, .ld true 3 (.t 20)⟩,
    ⟨(some 8), none, .new (.agg [.bool false, .nsl 2, .nsl 6])⟩,
    ⟨(some 7), none, .mov (.t 19)⟩,
    ⟨none, none, .st 3 (.t 8) (.t 21)⟩] (some [1, 2, 7, 8, 15, 16, 17]))
   (.seq (.rg [⟨(some 22), none, .mov (.t 1)⟩,
    ⟨(some 23), none, .mov (.t 7)⟩,
    ⟨(some 24), none, .iad 3 (.t 22) (.t 23)⟩,
    ⟨(some 25), none, .ld true 3 (.t 24)⟩,
    ⟨(some 9), none, .new (.agg [.bool false, .nsl 2, .nsl 6])⟩,
    ⟨none, none, .st 3 (.t 9) (.t 25)⟩] (some [1, 2, 8, 9, 15, 16, 17]))
   (.seq (.rg [⟨(some 26), none, .mov (.t 2)⟩,
    ⟨(some 27), none, .ld true 3 (.t 8)⟩,
    ⟨(some 28), none, .ld true 3 (.t 9)⟩,
    ⟨(some 29), none, .callv (.t 26) [(.t 27), (.t 28)]⟩,
    ⟨(some 30), none, .un .not (.t 29)⟩] (some [1, 2, 15, 16, 17, 30]))
   (.cond (.t 30) (.seq (.rg [⟨(some 6), none, .mov (.c (.bool false))⟩] (some [6]))
   (.ret)) (.skip))))))
   (.rg [⟨(some 31), none, .bin .add (.t 17) (.c (.int .i64 1))⟩,
    ⟨(some 17), none, .mov (.t 31)⟩] (some [1, 2, 15, 16, 17]))))
def i_slices_EqualFunc_sapi_Block_sapi_Block_api_Block_api_Block_l0 : IR := .loop b_slices_EqualFunc_sapi_Block_sapi_Block_api_Block_api_Block_0
theorem r_slices_EqualFunc_sapi_Block_sapi_Block_api_Block_api_Block_0 {C : Cx} {fr : Fr} {h : List Ob} : evw C i_slices_EqualFunc_sapi_Block_sapi_Block_api_Block_api_Block_l0 fr h = nxt (evw C b_slices_EqualFunc_sapi_Block_sapi_Block_api_Block_api_Block_0 fr h) fun fr h => evw C i_slices_EqualFunc_sapi_Block_sapi_Block_api_Block_api_Block_l0 fr h := w_loop
def i_slices_EqualFunc_sapi_Block_sapi_Block_api_Block_api_Block : IR := .seq (.rg [⟨(some 6), none, .mov (.c (.bool false))⟩] (some [0, 1, 2]))
   (.seq (.seq (.rg [⟨(some 10), none, .mov (.t 0)⟩,
    ⟨(some 11), none, .len (.t 10)⟩,
    ⟨(some 12), none, .mov (.t 1)⟩,
    ⟨(some 13), none, .len (.t 12)⟩,
    ⟨(some 14), none, .bin .neq (.t 11) (.t 13)⟩] (some [0, 1, 2, 14]))
   (.cond (.t 14) (.seq (.rg [⟨(some 6), none, .mov (.c (.bool false))⟩] (some [6]))
   (.ret)) (.skip)))
   (.seq (.seq (.rg [⟨(some 15), none, .mov (.t 0)⟩,
    ⟨(some 16), none, .len (.t 15)⟩,
    ⟨(some 17), none, .mov (.c (.int .i64 0))⟩] (some [1, 2, 15, 16, 17]))
   (.blk 0 (i_slices_EqualFunc_sapi_Block_sapi_Block_api_Block_api_Block_l0)))
   (.seq (.rg [⟨(some 6), none, .mov (.c (.bool true))⟩] (some [6]))
   (.ret))))
def F_slices_EqualFunc_sapi_Block_sapi_Block_api_Block_api_Block : F := ⟨i_slices_EqualFunc_sapi_Block_sapi_Block_api_Block_api_Block, [(6, none)], false⟩
/-- stratagem/stratagemref08.Alike -/
def b_ref08_Alike_0 : IR := .seq (.seq (.rg [⟨(some 13), none, .mov (.t 5)⟩,
    ⟨(some 14), none, .mov (.t 0)⟩,
    ⟨(some 15), none, .len (.t 14)⟩,
    ⟨(some 16), none, .bin .lss (.t 13) (.t 15)⟩] (some [0, 1, 5, 16]))
   (.cond (.t 16) (.skip) (.ext 0)))
   (.seq (.blk 1 (.seq (.rg [⟨(some 19), none, .mov (.t 0)⟩,
    ⟨(some 20), none, .mov (.t 5)⟩,
    ⟨(some 21), none, .iad 6 (.t 19) (.t 20)⟩,
    ⟨(some 22), none, .ld true 6 (.t 21)⟩,
    ⟨(some 6), none, .new (.agg [.int .i64 0, .nsl 1, .nsl 1, .int .i64 0, .int .i64 0, .nsl 1])⟩,
    ⟨none, none, .st 6 (.t 6) (.t 22)⟩] (some [0, 1, 5, 6]))
   (.seq (.rg [⟨(some 23), none, .mov (.t 1)⟩,
    ⟨(some 24), none, .mov (.t 5)⟩,
    ⟨(some 25), none, .iad 6 (.t 23) (.t 24)⟩,
    ⟨(some 26), none, .ld true 6 (.t 25)⟩,
    ⟨(some 7), none, .new (.agg [.int .i64 0, .nsl 1, .nsl 1, .int .i64 0, .int .i64 0, .nsl 1])⟩,
    ⟨none, none, .st 6 (.t 7) (.t 26)⟩] (some [0, 1, 5, 6, 7]))
   (.seq (.rg [⟨(some 27), none, .fad 0 (.t 6)⟩,
    ⟨(some 28), none, .ld false 1 (.t 27)⟩,
    ⟨(some 29), none, .fad 0 (.t 7)⟩,
    ⟨(some 30), none, .ld false 1 (.t 29)⟩,
    ⟨(some 31), none, .bin .neq (.t 28) (.t 30)⟩,
    ⟨(some 32), none, .mov (.t 31)⟩,
    ⟨(some 33), (some (32, false)), .fad 3 (.t 6)⟩,
    ⟨(some 34), (some (32, false)), .ld false 1 (.t 33)⟩,
    ⟨(some 35), (some (32, false)), .fad 3 (.t 7)⟩,
    ⟨(some 36), (some (32, false)), .ld false 1 (.t 35)⟩,
    ⟨(some 37), (some (32, false)), .bin .neq (.t 34) (.t 36)⟩,
    ⟨(some 38), none, .pick (.t 32) (.c (.bool true)) (.t 37)⟩,
    ⟨(some 39), none, .mov (.t 38)⟩,
    ⟨(some 40), (some (39, false)), .fad 4 (.t 6)⟩,
    ⟨(some 41), (some (39, false)), .ld false 1 (.t 40)⟩,
    ⟨(some 42), (some (39, false)), .fad 4 (.t 7)⟩,
    ⟨(some 43), (some (39, false)), .ld false 1 (.t 42)⟩,
    ⟨(some 44), (some (39, false)), .bin .neq (.t 41) (.t 43)⟩,
    ⟨(some 45), none, .pick (.t 39) (.c (.bool true)) (.t 44)⟩,
    ⟨(some 46), none, .mov (.t 45)⟩,
    ⟨(some 47), (some (46, false)), .fad 1 (.t 6)⟩,
    ⟨(some 48), (some (46, false)), .ld false 1 (.t 47)⟩,
    ⟨(some 49), (some (46, false)), .fad 1 (.t 7)⟩,
    ⟨(some 50), (some (46, false)), .ld false 1 (.t 49)⟩,
    ⟨(some 51), (some (46, false)), .call n_ref02_Same [(.t 48), (.t 50)]⟩,
    ⟨(some 52), (some (46, false)), .un .not (.t 51)⟩,
    ⟨(some 53), none, .pick (.t 46) (.c (.bool true)) (.t 52)⟩,
    ⟨(some 54), none, .mov (.t 53)⟩,
    ⟨(some 55), (some (54, false)), .fad 2 (.t 6)⟩,
    ⟨(some 56), (some (54, false)), .ld false 1 (.t 55)⟩,
    ⟨(some 57), (some (54, false)), .fad 2 (.t 7)⟩,
    ⟨(some 58), (some (54, false)), .ld false 1 (.t 57)⟩,
    ⟨(some 59), (some (54, false)), .call n_ref02_Same [(.t 56), (.t 58)]⟩,
    ⟨(some 60), (some (54, false)), .un .not (.t 59)⟩,
    ⟨(some 61), none, .pick (.t 54) (.c (.bool true)) (.t 60)⟩,
    ⟨(some 62), none, .mov (.t 61)⟩,
    ⟨(some 63), (some (62, false)), .fad 5 (.t 6)⟩,
    ⟨(some 64), (some (62, false)), .ld false 1 (.t 63)⟩,
    ⟨(some 65), (some (62, false)), .fad 5 (.t 7)⟩,
    ⟨(some 66), (some (62, false)), .ld false 1 (.t 65)⟩,
    ⟨(some 67), (some (62, false)), .call n_ref02_Same [(.t 64), (.t 66)]⟩,
    ⟨(some 68), (some (62, false)), .un .not (.t 67)⟩,
    ⟨(some 69), none, .pick (.t 62) (.c (.bool true)) (.t 68)⟩] (some [0, 1, 5, 69]))
   (.cond (.t 69) (.seq (.rg [⟨(some 4), none, .mov (.c (.bool false))⟩] (some [4]))
   (.ret)) (.skip))))))
   (.rg [⟨(some 17), none, .mov (.t 5)⟩,
    ⟨(some 18), none, .bin .add (.t 17) (.c (.int .i64 1))⟩,
    ⟨(some 5), none, .mov (.t 18)⟩] (some [0, 1, 5])))
def i_ref08_Alike_l0 : IR := .loop b_ref08_Alike_0
theorem r_ref08_Alike_0 {C : Cx} {fr : Fr} {h : List Ob} : evw C i_ref08_Alike_l0 fr h = nxt (evw C b_ref08_Alike_0 fr h) fun fr h => evw C i_ref08_Alike_l0 fr h := w_loop
def i_ref08_Alike : IR := .seq (.rg [⟨(some 4), none, .mov (.c (.bool false))⟩] (some [0, 1]))
   (.seq (.seq (.rg [⟨(some 8), none, .mov (.t 0)⟩,
    ⟨(some 9), none, .len (.t 8)⟩,
    ⟨(some 10), none, .mov (.t 1)⟩,
    ⟨(some 11), none, .len (.t 10)⟩,
    ⟨(some 12), none, .bin .neq (.t 9) (.t 11)⟩] (some [0, 1, 12]))
   (.cond (.t 12) (.seq (.rg [⟨(some 4), none, .mov (.c (.bool false))⟩] (some [4]))
   (.ret)) (.skip)))
   (.seq (.seq (.rg [⟨(some 5), none, .mov (.c (.int .i64 0))⟩] (some [0, 1, 5]))
   (.blk 0 (i_ref08_Alike_l0)))
   (.seq (.rg [⟨(some 4), none, .mov (.c (.bool true))⟩] (some [4]))
   (.ret))))
def F_ref08_Alike : F := ⟨i_ref08_Alike, [(4, none)], false⟩
/-- slices.Contains[[]int,int] -/
def i_slices_Contains_sint_int : IR := .seq (.rg [⟨(some 4), none, .mov (.c (.bool false))⟩] (some [0, 1]))
   (.seq (.rg [⟨(some 5), none, .mov (.t 0)⟩,
    ⟨(some 6), none, .mov (.t 1)⟩,
    ⟨(some 7), none, .call n_slices_Index_sint_int [(.t 5), (.t 6)]⟩,
    ⟨(some 8), none, .bin .geq (.t 7) (.c (.int .i64 0))⟩,
    ⟨(some 4), none, .mov (.t 8)⟩] (some [4]))
   (.ret))
def F_slices_Contains_sint_int : F := ⟨i_slices_Contains_sint_int, [(4, none)], false⟩
/-- slices.Equal[[]int,int] -/
def b_slices_Equal_sint_int_0 : IR := .seq (.rg [⟨(some 14), none, .bin .lss (.t 13) (.t 12)⟩] (some [0, 1, 12, 13, 14]))
   (.seq (.cond (.t 14) (.skip) (.ext 0))
   (.seq (.blk 1 (.seq (.rg [⟨(some 15), none, .mov (.t 13)⟩,
    ⟨(some 5), none, .mov (.t 15)⟩] (some [0, 1, 5, 12, 13]))
   (.seq (.dq [(⟨(some 16), none, .mov (.t 0)⟩, []),
    (⟨(some 17), none, .mov (.t 5)⟩, []),
    (⟨(some 18), none, .iad 1 (.t 16) (.t 17)⟩, [0, 1]),
    (⟨(some 19), none, .ld false 1 (.t 18)⟩, [0, 1, 2]),
    (⟨(some 20), none, .mov (.t 1)⟩, []),
    (⟨(some 21), none, .mov (.t 5)⟩, []),
    (⟨(some 22), none, .iad 1 (.t 20) (.t 21)⟩, [4, 5]),
    (⟨(some 23), none, .ld false 1 (.t 22)⟩, [4, 5, 6]),
    (⟨(some 24), none, .bin .neq (.t 19) (.t 23)⟩, [0, 1, 2, 3, 4, 5, 6, 7])] (some [0, 1, 12, 13, 24]))
   (.cond (.t 24) (.seq (.rg [⟨(some 4), none, .mov (.c (.bool false))⟩] (some [4]))
   (.ret)) (.skip)))))
   (.rg [⟨(some 25), none, .bin .add (.t 13) (.c (.int .i64 1))⟩,
    ⟨(some 13), none, .mov (.t 25)⟩] (some [0, 1, 12, 13]))))
def i_slices_Equal_sint_int_l0 : IR := .loop b_slices_Equal_sint_int_0
theorem r_slices_Equal_sint_int_0 {C : Cx} {fr : Fr} {h : List Ob} : evw C i_slices_Equal_sint_int_l0 fr h = nxt (evw C b_slices_Equal_sint_int_0 fr h) fun fr h => evw C i_slices_Equal_sint_int_l0 fr h := w_loop
def i_slices_Equal_sint_int : IR := .seq (.rg [⟨(some 4), none, .mov (.c (.bool false))⟩] (some [0, 1]))
   (.seq (.seq (.rg [⟨(some 6), none, .mov (.t 0)⟩,
    ⟨(some 7), none, .len (.t 6)⟩,
    ⟨(some 8), none, .mov (.t 1)⟩,
    ⟨(some 9), none, .len (.t 8)⟩,
    ⟨(some 10), none, .bin .neq (.t 7) (.t 9)⟩] (some [0, 1, 10]))
   (.cond (.t 10) (.seq (.rg [⟨(some 4), none, .mov (.c (.bool false))⟩] (some [4]))
   (.ret)) (.skip)))
   (.seq (.seq (.rg [⟨(some 11), none, .mov (.t 0)⟩,
    ⟨(some 12), none, .len (.t 11)⟩,
    ⟨(some 13), none, .mov (.c (.int .i64 0))⟩] (some [0, 1, 12, 13]))
   (.blk 0 (i_slices_Equal_sint_int_l0)))
   (.seq (.rg [⟨(some 4), none, .mov (.c (.bool true))⟩] (some [4]))
   (.ret))))
def F_slices_Equal_sint_int : F := ⟨i_slices_Equal_sint_int, [(4, none)], false⟩
/-- stratagem/model.big$1 -/
def i_model_big_1 : IR := .seq (.rg [⟨(some 1), none, .box (.t 0)⟩,
    ⟨(some 2), none, .mov (.c (.bool false))⟩] (some [1]))
   (.seq (.rg [⟨(some 3), none, .fad 2 (.t 1)⟩,
    ⟨(some 4), none, .ld false 1 (.t 3)⟩,
    ⟨(some 5), none, .len (.t 4)⟩,
    ⟨(some 6), none, .bin .gtr (.t 5) (.c (.int .i64 16))⟩,
    ⟨(some 2), none, .mov (.t 6)⟩] (some [2]))
   (.ret))
def F_model_big_1 : F := ⟨i_model_big_1, [(2, none)], false⟩
/-- slices.IndexFunc[[]stratagem/api.Block,stratagem/api.Block] -/
def b_slices_IndexFunc_sapi_Block_api_Block_0 : IR := .seq (.rg [⟨(some 9), none, .bin .lss (.t 8) (.t 7)⟩] (some [0, 1, 7, 8, 9]))
   (.seq (.cond (.t 9) (.skip) (.ext 0))
   (.seq (.blk 1 (.seq (.rg [⟨(some 10), none, .mov (.t 8)⟩,
    ⟨(some 5), none, .mov (.t 10)⟩] (some [0, 1, 5, 7, 8]))
   (.seq (.rg [⟨(some 11), none, .mov (.t 1)⟩,
    ⟨(some 12), none, .mov (.t 0)⟩,
    ⟨(some 13), none, .mov (.t 5)⟩,
    ⟨(some 14), none, .iad 3 (.t 12) (.t 13)⟩,
    ⟨(some 15), none, .ld true 3 (.t 14)⟩,
    ⟨(some 16), none, .callv (.t 11) [(.t 15)]⟩] (some [0, 1, 5, 7, 8, 16]))
   (.cond (.t 16) (.seq (.rg [⟨(some 17), none, .mov (.t 5)⟩,
    ⟨(some 4), none, .mov (.t 17)⟩] (some [4]))
   (.ret)) (.skip)))))
   (.rg [⟨(some 18), none, .bin .add (.t 8) (.c (.int .i64 1))⟩,
    ⟨(some 8), none, .mov (.t 18)⟩] (some [0, 1, 7, 8]))))
def i_slices_IndexFunc_sapi_Block_api_Block_l0 : IR := .loop b_slices_IndexFunc_sapi_Block_api_Block_0
theorem r_slices_IndexFunc_sapi_Block_api_Block_0 {C : Cx} {fr : Fr} {h : List Ob} : evw C i_slices_IndexFunc_sapi_Block_api_Block_l0 fr h = nxt (evw C b_slices_IndexFunc_sapi_Block_api_Block_0 fr h) fun fr h => evw C i_slices_IndexFunc_sapi_Block_api_Block_l0 fr h := w_loop
def i_slices_IndexFunc_sapi_Block_api_Block : IR := .seq (.rg [⟨(some 4), none, .mov (.c (.int .i64 0))⟩] (some [0, 1]))
   (.seq (.seq (.rg [⟨(some 6), none, .mov (.t 0)⟩,
    ⟨(some 7), none, .len (.t 6)⟩,
    ⟨(some 8), none, .mov (.c (.int .i64 0))⟩] (some [0, 1, 7, 8]))
   (.blk 0 (i_slices_IndexFunc_sapi_Block_api_Block_l0)))
   (.seq (.rg [⟨(some 4), none, .mov (.c (.int .i64 (-1)))⟩] (some [4]))
   (.ret)))
def F_slices_IndexFunc_sapi_Block_api_Block : F := ⟨i_slices_IndexFunc_sapi_Block_api_Block, [(4, none)], false⟩
/-- slices.IndexFunc[[]stratagem/api.Decl,stratagem/api.Decl] -/
def b_slices_IndexFunc_sapi_Decl_api_Decl_0 : IR := .seq (.rg [⟨(some 9), none, .bin .lss (.t 8) (.t 7)⟩] (some [0, 1, 7, 8, 9]))
   (.seq (.cond (.t 9) (.skip) (.ext 0))
   (.seq (.blk 1 (.seq (.rg [⟨(some 10), none, .mov (.t 8)⟩,
    ⟨(some 5), none, .mov (.t 10)⟩] (some [0, 1, 5, 7, 8]))
   (.seq (.rg [⟨(some 11), none, .mov (.t 1)⟩,
    ⟨(some 12), none, .mov (.t 0)⟩,
    ⟨(some 13), none, .mov (.t 5)⟩,
    ⟨(some 14), none, .iad 2 (.t 12) (.t 13)⟩,
    ⟨(some 15), none, .ld true 2 (.t 14)⟩,
    ⟨(some 16), none, .callv (.t 11) [(.t 15)]⟩] (some [0, 1, 5, 7, 8, 16]))
   (.cond (.t 16) (.seq (.rg [⟨(some 17), none, .mov (.t 5)⟩,
    ⟨(some 4), none, .mov (.t 17)⟩] (some [4]))
   (.ret)) (.skip)))))
   (.rg [⟨(some 18), none, .bin .add (.t 8) (.c (.int .i64 1))⟩,
    ⟨(some 8), none, .mov (.t 18)⟩] (some [0, 1, 7, 8]))))
def i_slices_IndexFunc_sapi_Decl_api_Decl_l0 : IR := .loop b_slices_IndexFunc_sapi_Decl_api_Decl_0
theorem r_slices_IndexFunc_sapi_Decl_api_Decl_0 {C : Cx} {fr : Fr} {h : List Ob} : evw C i_slices_IndexFunc_sapi_Decl_api_Decl_l0 fr h = nxt (evw C b_slices_IndexFunc_sapi_Decl_api_Decl_0 fr h) fun fr h => evw C i_slices_IndexFunc_sapi_Decl_api_Decl_l0 fr h := w_loop
def i_slices_IndexFunc_sapi_Decl_api_Decl : IR := .seq (.rg [⟨(some 4), none, .mov (.c (.int .i64 0))⟩] (some [0, 1]))
   (.seq (.seq (.rg [⟨(some 6), none, .mov (.t 0)⟩,
    ⟨(some 7), none, .len (.t 6)⟩,
    ⟨(some 8), none, .mov (.c (.int .i64 0))⟩] (some [0, 1, 7, 8]))
   (.blk 0 (i_slices_IndexFunc_sapi_Decl_api_Decl_l0)))
   (.seq (.rg [⟨(some 4), none, .mov (.c (.int .i64 (-1)))⟩] (some [4]))
   (.ret)))
def F_slices_IndexFunc_sapi_Decl_api_Decl : F := ⟨i_slices_IndexFunc_sapi_Decl_api_Decl, [(4, none)], false⟩
/-- stratagem/spans.Right -/
def b_spans_Right_0 : IR := .seq (.rg [⟨(some 8), none, .bin .lss (.t 7) (.t 6)⟩] (some [0, 5, 6, 7, 8]))
   (.seq (.cond (.t 8) (.skip) (.ext 0))
   (.seq (.blk 1 (.seq (.rg [⟨(some 9), none, .mov (.t 7)⟩,
    ⟨(some 10), none, .iad 2 (.t 5) (.t 7)⟩,
    ⟨(some 11), none, .ld true 2 (.t 10)⟩,
    ⟨(some 4), none, .new (.agg [.int .i64 0, .int .i64 0])⟩,
    ⟨(some 3), none, .mov (.t 9)⟩,
    ⟨none, none, .st 2 (.t 4) (.t 11)⟩] (some [0, 3, 4, 5, 6, 7]))
   (.seq (.dq [(⟨(some 12), none, .fad 0 (.t 4)⟩, []),
    (⟨(some 13), none, .ld false 1 (.t 12)⟩, [0]),
    (⟨(some 14), none, .fad 1 (.t 4)⟩, []),
    (⟨(some 15), none, .ld false 1 (.t 14)⟩, [2]),
    (⟨(some 16), none, .bin .gtr (.t 13) (.t 15)⟩, [0, 1, 2, 3]),
    (⟨(some 17), none, .mov (.t 16)⟩, [0, 1, 2, 3, 4]),
    (⟨(some 18), (some (17, false)), .fad 0 (.t 4)⟩, [0, 1, 2, 3, 4, 5]),
    (⟨(some 19), (some (17, false)), .ld false 1 (.t 18)⟩, [0, 1, 2, 3, 4, 5, 6]),
    (⟨(some 20), (some (17, false)), .bin .lss (.t 19) (.c (.int .i64 (-1048576)))⟩, [0, 1, 2, 3, 4, 5, 6, 7]),
    (⟨(some 21), none, .pick (.t 17) (.c (.bool true)) (.t 20)⟩, [0, 1, 2, 3, 4, 5, 6, 7, 8]),
    (⟨(some 22), none, .mov (.t 21)⟩, [0, 1, 2, 3, 4, 5, 6, 7, 8, 9]),
    (⟨(some 23), (some (22, false)), .fad 1 (.t 4)⟩, [0, 1, 2, 3, 4, 5, 6, 7, 8, 9, 10]),
    (⟨(some 24), (some (22, false)), .ld false 1 (.t 23)⟩, [0, 1, 2, 3, 4, 5, 6, 7, 8, 9, 10, 11]),
    (⟨(some 25), (some (22, false)), .bin .gtr (.t 24) (.c (.int .i64 1048576))⟩, [0, 1, 2, 3, 4, 5, 6, 7, 8, 9, 10, 11, 12]),
    (⟨(some 26), none, .pick (.t 22) (.c (.bool true)) (.t 25)⟩, [0, 1, 2, 3, 4, 5, 6, 7, 8, 9, 10, 11, 12, 13]),
    (⟨(some 27), none, .mov (.t 26)⟩, [0, 1, 2, 3, 4, 5, 6, 7, 8, 9, 10, 11, 12, 13, 14]),
    (⟨(some 28), (some (27, false)), .mov (.t 3)⟩, [0, 1, 2, 3, 4, 5, 6, 7, 8, 9, 10, 11, 12, 13, 14, 15]),
    (⟨(some 29), (some (27, false)), .bin .gtr (.t 28) (.c (.int .i64 0))⟩, [0, 1, 2, 3, 4, 5, 6, 7, 8, 9, 10, 11, 12, 13, 14, 15, 16]),
    (⟨(some 30), (some (27, false)), .mov (.t 29)⟩, [0, 1, 2, 3, 4, 5, 6, 7, 8, 9, 10, 11, 12, 13, 14, 15, 16, 17]),
    (⟨(some 31), (some (30, true)), .fad 0 (.t 4)⟩, [0, 1, 2, 3, 4, 5, 6, 7, 8, 9, 10, 11, 12, 13, 14, 15, 16, 17, 18]),
    (⟨(some 32), (some (30, true)), .ld false 1 (.t 31)⟩, [0, 1, 2, 3, 4, 5, 6, 7, 8, 9, 10, 11, 12, 13, 14, 15, 16, 17, 18, 19]),
    (⟨(some 33), (some (30, true)), .mov (.t 0)⟩, [0, 1, 2, 3, 4, 5, 6, 7, 8, 9, 10, 11, 12, 13, 14, 15, 16, 17, 18]),
    (⟨(some 34), (some (30, true)), .mov (.t 3)⟩, [0, 1, 2, 3, 4, 5, 6, 7, 8, 9, 10, 11, 12, 13, 14, 15, 16, 17, 18]),
    (⟨(some 35), (some (30, true)), .bin .sub (.t 34) (.c (.int .i64 1))⟩, [0, 1, 2, 3, 4, 5, 6, 7, 8, 9, 10, 11, 12, 13, 14, 15, 16, 17, 18, 22]),
    (⟨(some 36), (some (30, true)), .iad 2 (.t 33) (.t 35)⟩, [0, 1, 2, 3, 4, 5, 6, 7, 8, 9, 10, 11, 12, 13, 14, 15, 16, 17, 18, 21, 22, 23]),
    (⟨(some 37), (some (30, true)), .fad 1 (.t 36)⟩, [0, 1, 2, 3, 4, 5, 6, 7, 8, 9, 10, 11, 12, 13, 14, 15, 16, 17, 18, 21, 22, 23, 24]),
    (⟨(some 38), (some (30, true)), .ld false 1 (.t 37)⟩, [0, 1, 2, 3, 4, 5, 6, 7, 8, 9, 10, 11, 12, 13, 14, 15, 16, 17, 18, 21, 22, 23, 24, 25]),
    (⟨(some 39), (some (30, true)), .bin .add (.t 38) (.c (.int .i64 1))⟩, [0, 1, 2, 3, 4, 5, 6, 7, 8, 9, 10, 11, 12, 13, 14, 15, 16, 17, 18, 21, 22, 23, 24, 25, 26]),
    (⟨(some 40), (some (30, true)), .bin .leq (.t 32) (.t 39)⟩, [0, 1, 2, 3, 4, 5, 6, 7, 8, 9, 10, 11, 12, 13, 14, 15, 16, 17, 18, 19, 20, 21, 22, 23, 24, 25, 26, 27]),
    (⟨(some 41), (some (27, false)), .pick (.t 30) (.t 40) (.c (.bool false))⟩, [0, 1, 2, 3, 4, 5, 6, 7, 8, 9, 10, 11, 12, 13, 14, 15, 16, 17, 18, 19, 20, 21, 22, 23, 24, 25, 26, 27, 28]),
    (⟨(some 42), none, .pick (.t 27) (.c (.bool true)) (.t 41)⟩, [0, 1, 2, 3, 4, 5, 6, 7, 8, 9, 10, 11, 12, 13, 14, 15, 16, 17, 18, 19, 20, 21, 22, 23, 24, 25, 26, 27, 28, 29])] (some [0, 5, 6, 7, 42]))
   (.cond (.t 42) (.seq (.rg [⟨(some 2), none, .mov (.c (.bool false))⟩] (some [2]))
   (.ret)) (.skip)))))
   (.rg [⟨(some 43), none, .bin .add (.t 7) (.c (.int .i64 1))⟩,
    ⟨(some 7), none, .mov (.t 43)⟩] (some [0, 5, 6, 7]))))
def i_spans_Right_l0 : IR := .loop b_spans_Right_0
theorem r_spans_Right_0 {C : Cx} {fr : Fr} {h : List Ob} : evw C i_spans_Right_l0 fr h = nxt (evw C b_spans_Right_0 fr h) fun fr h => evw C i_spans_Right_l0 fr h := w_loop
def i_spans_Right : IR := .seq (.rg [⟨(some 2), none, .mov (.c (.bool false))⟩] (some [0]))
   (.seq (.seq (.rg [⟨(some 5), none, .mov (.t 0)⟩,
    ⟨(some 6), none, .len (.t 5)⟩,
    ⟨(some 7), none, .mov (.c (.int .i64 0))⟩] (some [0, 5, 6, 7]))
   (.blk 0 (i_spans_Right_l0)))
   (.seq (.rg [⟨(some 2), none, .mov (.c (.bool true))⟩] (some [2]))
   (.ret)))
def F_spans_Right : F := ⟨i_spans_Right, [(2, none)], false⟩
/-- slices.ContainsFunc[[]stratagem/api.Con,stratagem/api.Con] -/
def i_slices_ContainsFunc_sapi_Con_api_Con : IR := .seq (.rg [⟨(some 4), none, .mov (.c (.bool false))⟩] (some [0, 1]))
   (.seq (.rg [⟨(some 5), none, .mov (.t 0)⟩,
    ⟨(some 6), none, .mov (.t 1)⟩,
    ⟨(some 7), none, .call n_slices_IndexFunc_sapi_Con_api_Con [(.t 5), (.t 6)]⟩,
    ⟨(some 8), none, .bin .geq (.t 7) (.c (.int .i64 0))⟩,
    ⟨(some 4), none, .mov (.t 8)⟩] (some [4]))
   (.ret))
def F_slices_ContainsFunc_sapi_Con_api_Con : F := ⟨i_slices_ContainsFunc_sapi_Con_api_Con, [(4, none)], false⟩
/-- stratagem/model.wrong$1 -/
def i_model_wrong_1 : IR := .seq (.rg [⟨(some 3), none, .box (.t 0)⟩,
    ⟨(some 4), none, .mov (.c (.bool false))⟩] (some [1, 2, 3]))
   (.seq (.dq [(⟨(some 5), none, .ld true 6 (.t 3)⟩, []),
    (⟨(some 6), none, .ld false 1 (.t 1)⟩, []),
    (⟨(some 7), none, .ld false 1 (.t 2)⟩, []),
    (⟨(some 8), none, .iad 1 (.t 6) (.t 7)⟩, [1, 2]),
    (⟨(some 9), none, .ld false 1 (.t 8)⟩, [1, 2, 3]),
    (⟨(some 10), none, .call n_model_Right [(.t 5), (.t 9)]⟩, [0, 1, 2, 3, 4]),
    (⟨(some 11), none, .un .not (.t 10)⟩, [0, 1, 2, 3, 4, 5]),
    (⟨(some 4), none, .mov (.t 11)⟩, [0, 1, 2, 3, 4, 5, 6])] (some [4]))
   (.ret))
def F_model_wrong_1 : F := ⟨i_model_wrong_1, [(4, none)], false⟩
/-- stratagem/model.wrong$2 -/
def i_model_wrong_2 : IR := .seq (.rg [⟨(some 2), none, .box (.t 0)⟩,
    ⟨(some 3), none, .mov (.c (.bool false))⟩] (some [1, 2]))
   (.seq (.dq [(⟨(some 4), none, .ld true 6 (.t 2)⟩, []),
    (⟨(some 5), none, .ld false 1 (.t 1)⟩, []),
    (⟨(some 6), none, .ld false 1 (.t 1)⟩, []),
    (⟨(some 7), none, .len (.t 6)⟩, [2]),
    (⟨(some 8), none, .bin .sub (.t 7) (.c (.int .i64 1))⟩, [2, 3]),
    (⟨(some 9), none, .iad 1 (.t 5) (.t 8)⟩, [1, 2, 3, 4]),
    (⟨(some 10), none, .ld false 1 (.t 9)⟩, [1, 2, 3, 4, 5]),
    (⟨(some 11), none, .call n_model_Right [(.t 4), (.t 10)]⟩, [0, 1, 2, 3, 4, 5, 6]),
    (⟨(some 12), none, .un .not (.t 11)⟩, [0, 1, 2, 3, 4, 5, 6, 7]),
    (⟨(some 3), none, .mov (.t 12)⟩, [0, 1, 2, 3, 4, 5, 6, 7, 8])] (some [3]))
   (.ret))
def F_model_wrong_2 : F := ⟨i_model_wrong_2, [(3, none)], false⟩
/-- stratagem/stratagemref03.Right -/
def b_ref03_Right_0 : IR := .seq (.seq (.rg [⟨(some 4), none, .mov (.t 3)⟩,
    ⟨(some 5), none, .mov (.t 0)⟩,
    ⟨(some 6), none, .len (.t 5)⟩,
    ⟨(some 7), none, .bin .lss (.t 4) (.t 6)⟩] (some [0, 3, 7]))
   (.cond (.t 7) (.skip) (.ext 0)))
   (.seq (.blk 1 (.seq (.seq (.dq [(⟨(some 10), none, .mov (.t 0)⟩, []),
    (⟨(some 11), none, .mov (.t 3)⟩, []),
    (⟨(some 12), none, .iad 2 (.t 10) (.t 11)⟩, [0, 1]),
    (⟨(some 13), none, .fad 0 (.t 12)⟩, [0, 1, 2]),
    (⟨(some 14), none, .ld false 1 (.t 13)⟩, [0, 1, 2, 3]),
    (⟨(some 15), none, .bin .lss (.t 14) (.c (.int .i64 (-1048576)))⟩, [0, 1, 2, 3, 4]),
    (⟨(some 16), none, .mov (.t 15)⟩, [0, 1, 2, 3, 4, 5]),
    (⟨(some 17), (some (16, false)), .mov (.t 0)⟩, [0, 1, 2, 3, 4, 5, 6]),
    (⟨(some 18), (some (16, false)), .mov (.t 3)⟩, [0, 1, 2, 3, 4, 5, 6]),
    (⟨(some 19), (some (16, false)), .iad 2 (.t 17) (.t 18)⟩, [0, 1, 2, 3, 4, 5, 6, 7, 8]),
    (⟨(some 20), (some (16, false)), .fad 1 (.t 19)⟩, [0, 1, 2, 3, 4, 5, 6, 7, 8, 9]),
    (⟨(some 21), (some (16, false)), .ld false 1 (.t 20)⟩, [0, 1, 2, 3, 4, 5, 6, 7, 8, 9, 10]),
    (⟨(some 22), (some (16, false)), .bin .gtr (.t 21) (.c (.int .i64 1048576))⟩, [0, 1, 2, 3, 4, 5, 6, 7, 8, 9, 10, 11]),
    (⟨(some 23), none, .pick (.t 16) (.c (.bool true)) (.t 22)⟩, [0, 1, 2, 3, 4, 5, 6, 7, 8, 9, 10, 11, 12]),
    (⟨(some 24), none, .mov (.t 23)⟩, [0, 1, 2, 3, 4, 5, 6, 7, 8, 9, 10, 11, 12, 13]),
    (⟨(some 25), (some (24, false)), .mov (.t 0)⟩, [0, 1, 2, 3, 4, 5, 6, 7, 8, 9, 10, 11, 12, 13, 14]),
    (⟨(some 26), (some (24, false)), .mov (.t 3)⟩, [0, 1, 2, 3, 4, 5, 6, 7, 8, 9, 10, 11, 12, 13, 14]),
    (⟨(some 27), (some (24, false)), .iad 2 (.t 25) (.t 26)⟩, [0, 1, 2, 3, 4, 5, 6, 7, 8, 9, 10, 11, 12, 13, 14, 15, 16]),
    (⟨(some 28), (some (24, false)), .fad 0 (.t 27)⟩, [0, 1, 2, 3, 4, 5, 6, 7, 8, 9, 10, 11, 12, 13, 14, 15, 16, 17]),
    (⟨(some 29), (some (24, false)), .ld false 1 (.t 28)⟩, [0, 1, 2, 3, 4, 5, 6, 7, 8, 9, 10, 11, 12, 13, 14, 15, 16, 17, 18]),
    (⟨(some 30), (some (24, false)), .mov (.t 0)⟩, [0, 1, 2, 3, 4, 5, 6, 7, 8, 9, 10, 11, 12, 13, 14]),
    (⟨(some 31), (some (24, false)), .mov (.t 3)⟩, [0, 1, 2, 3, 4, 5, 6, 7, 8, 9, 10, 11, 12, 13, 14]),
    (⟨(some 32), (some (24, false)), .iad 2 (.t 30) (.t 31)⟩, [0, 1, 2, 3, 4, 5, 6, 7, 8, 9, 10, 11, 12, 13, 14, 20, 21]),
    (⟨(some 33), (some (24, false)), .fad 1 (.t 32)⟩, [0, 1, 2, 3, 4, 5, 6, 7, 8, 9, 10, 11, 12, 13, 14, 20, 21, 22]),
    (⟨(some 34), (some (24, false)), .ld false 1 (.t 33)⟩, [0, 1, 2, 3, 4, 5, 6, 7, 8, 9, 10, 11, 12, 13, 14, 20, 21, 22, 23]),
    (⟨(some 35), (some (24, false)), .bin .gtr (.t 29) (.t 34)⟩, [0, 1, 2, 3, 4, 5, 6, 7, 8, 9, 10, 11, 12, 13, 14, 15, 16, 17, 18, 19, 20, 21, 22, 23, 24]),
    (⟨(some 36), none, .pick (.t 24) (.c (.bool true)) (.t 35)⟩, [0, 1, 2, 3, 4, 5, 6, 7, 8, 9, 10, 11, 12, 13, 14, 15, 16, 17, 18, 19, 20, 21, 22, 23, 24, 25])] (some [0, 3, 36]))
   (.cond (.t 36) (.seq (.rg [⟨(some 2), none, .mov (.c (.bool false))⟩] (some [2]))
   (.ret)) (.skip)))
   (.seq (.dq [(⟨(some 37), none, .mov (.t 3)⟩, []),
    (⟨(some 38), none, .bin .gtr (.t 37) (.c (.int .i64 0))⟩, [0]),
    (⟨(some 39), none, .mov (.t 38)⟩, [0, 1]),
    (⟨(some 40), (some (39, true)), .mov (.t 0)⟩, [0, 1, 2]),
    (⟨(some 41), (some (39, true)), .mov (.t 3)⟩, [0, 1, 2]),
    (⟨(some 42), (some (39, true)), .iad 2 (.t 40) (.t 41)⟩, [0, 1, 2, 3, 4]),
    (⟨(some 43), (some (39, true)), .fad 0 (.t 42)⟩, [0, 1, 2, 3, 4, 5]),
    (⟨(some 44), (some (39, true)), .ld false 1 (.t 43)⟩, [0, 1, 2, 3, 4, 5, 6]),
    (⟨(some 45), (some (39, true)), .mov (.t 0)⟩, [0, 1, 2]),
    (⟨(some 46), (some (39, true)), .mov (.t 3)⟩, [0, 1, 2]),
    (⟨(some 47), (some (39, true)), .bin .sub (.t 46) (.c (.int .i64 1))⟩, [0, 1, 2, 9]),
    (⟨(some 48), (some (39, true)), .iad 2 (.t 45) (.t 47)⟩, [0, 1, 2, 8, 9, 10]),
    (⟨(some 49), (some (39, true)), .fad 1 (.t 48)⟩, [0, 1, 2, 8, 9, 10, 11]),
    (⟨(some 50), (some (39, true)), .ld false 1 (.t 49)⟩, [0, 1, 2, 8, 9, 10, 11, 12]),
    (⟨(some 51), (some (39, true)), .bin .sub (.t 44) (.t 50)⟩, [0, 1, 2, 3, 4, 5, 6, 7, 8, 9, 10, 11, 12, 13]),
    (⟨(some 52), (some (39, true)), .bin .lss (.t 51) (.c (.int .i64 2))⟩, [0, 1, 2, 3, 4, 5, 6, 7, 8, 9, 10, 11, 12, 13, 14]),
    (⟨(some 53), none, .pick (.t 39) (.t 52) (.c (.bool false))⟩, [0, 1, 2, 3, 4, 5, 6, 7, 8, 9, 10, 11, 12, 13, 14, 15])] (some [0, 3, 53]))
   (.cond (.t 53) (.seq (.rg [⟨(some 2), none, .mov (.c (.bool false))⟩] (some [2]))
   (.ret)) (.skip)))))
   (.rg [⟨(some 8), none, .mov (.t 3)⟩,
    ⟨(some 9), none, .bin .add (.t 8) (.c (.int .i64 1))⟩,
    ⟨(some 3), none, .mov (.t 9)⟩] (some [0, 3])))
def i_ref03_Right_l0 : IR := .loop b_ref03_Right_0
theorem r_ref03_Right_0 {C : Cx} {fr : Fr} {h : List Ob} : evw C i_ref03_Right_l0 fr h = nxt (evw C b_ref03_Right_0 fr h) fun fr h => evw C i_ref03_Right_l0 fr h := w_loop
def i_ref03_Right : IR := .seq (.rg [⟨(some 2), none, .mov (.c (.bool false))⟩] (some [0]))
   (.seq (.seq (.rg [⟨(some 3), none, .mov (.c (.int .i64 0))⟩] (some [0, 3]))
   (.blk 0 (i_ref03_Right_l0)))
   (.seq (.rg [⟨(some 2), none, .mov (.c (.bool true))⟩] (some [2]))
   (.ret)))
def F_ref03_Right : F := ⟨i_ref03_Right, [(2, none)], false⟩
/-- strings.Index -/
def i_strings_Index : IR := .seq (.rg [⟨(some 4), none, .mov (.c (.int .i64 0))⟩] (some [0, 1]))
   (.seq (.rg [⟨(some 5), none, .mov (.t 0)⟩,
    ⟨(some 6), none, .mov (.t 1)⟩,
    ⟨(some 7), none, .call n_stringslite_Index [(.t 5), (.t 6)]⟩,
    ⟨(some 4), none, .mov (.t 7)⟩] (some [4]))
   (.ret))
def F_strings_Index : F := ⟨i_strings_Index, [(4, none)], false⟩
/-- strings.trimLeftByte -/
def b_strings_trimLeftByte_0 : IR := .seq (.seq (.rg [⟨(some 5), none, .mov (.t 0)⟩,
    ⟨(some 6), none, .slen (.t 5)⟩,
    ⟨(some 7), none, .bin .gtr (.t 6) (.c (.int .i64 0))⟩,
    ⟨(some 8), none, .mov (.t 7)⟩,
    ⟨(some 9), (some (8, true)), .mov (.t 0)⟩,
    ⟨(some 10), (some (8, true)), .ixs (.t 9) (.c (.int .i64 0))⟩,
    ⟨(some 11), (some (8, true)), .mov (.t 1)⟩,
    ⟨(some 12), (some (8, true)), .bin .eql (.t 10) (.t 11)⟩,
    ⟨(some 13), none, .pick (.t 8) (.t 12) (.c (.bool false))⟩] (some [0, 1, 13]))
   (.cond (.t 13) (.skip) (.ext 0)))
   (.blk 1 (.rg [⟨(some 14), none, .mov (.t 0)⟩,
    ⟨(some 15), none, .sls (.t 14) (some (.c (.int .i64 1))) none⟩,
    ⟨(some 0), none, .mov (.t 15)⟩] (some [0, 1])))
def i_strings_trimLeftByte_l0 : IR := .loop b_strings_trimLeftByte_0
theorem r_strings_trimLeftByte_0 {C : Cx} {fr : Fr} {h : List Ob} : evw C i_strings_trimLeftByte_l0 fr h = nxt (evw C b_strings_trimLeftByte_0 fr h) fun fr h => evw C i_strings_trimLeftByte_l0 fr h := w_loop
def i_strings_trimLeftByte : IR := .seq (.rg [⟨(some 4), none, .mov (.c (.str []))⟩] (some [0, 1]))
   (.seq (.blk 0 (i_strings_trimLeftByte_l0))
   (.seq (.rg [⟨(some 16), none, .mov (.t 0)⟩,
    ⟨(some 4), none, .mov (.t 16)⟩] (some [4]))
   (.ret)))
def F_strings_trimLeftByte : F := ⟨i_strings_trimLeftByte, [(4, none)], false⟩
/-- strings.trimRightByte -/
def b_strings_trimRightByte_0 : IR := .seq (.seq (.rg [⟨(some 5), none, .mov (.t 0)⟩,
    ⟨(some 6), none, .slen (.t 5)⟩,
    ⟨(some 7), none, .bin .gtr (.t 6) (.c (.int .i64 0))⟩,
    ⟨(some 8), none, .mov (.t 7)⟩,
    ⟨(some 9), (some (8, true)), .mov (.t 0)⟩,
    ⟨(some 10), (some (8, true)), .mov (.t 0)⟩,
    ⟨(some 11), (some (8, true)), .slen (.t 10)⟩,
    ⟨(some 12), (some (8, true)), .bin .sub (.t 11) (.c (.int .i64 1))⟩,
    ⟨(some 13), (some (8, true)), .ixs (.t 9) (.t 12)⟩,
    ⟨(some 14), (some (8, true)), .mov (.t 1)⟩,
    ⟨(some 15), (some (8, true)), .bin .eql (.t 13) (.t 14)⟩,
    ⟨(some 16), none, .pick (.t 8) (.t 15) (.c (.bool false))⟩] (some [0, 1, 16]))
   (.cond (.t 16) (.skip) (.ext 0)))
   (.blk 1 (.rg [⟨(some 17), none, .mov (.t 0)⟩,
    ⟨(some 18), none, .mov (.t 0)⟩,
    ⟨(some 19), none, .slen (.t 18)⟩,
    ⟨(some 20), none, .bin .sub (.t 19) (.c (.int .i64 1))⟩,
    ⟨(some 21), none, .sls (.t 17) none (some (.t 20))⟩,
    ⟨(some 0), none, .mov (.t 21)⟩] (some [0, 1])))
def i_strings_trimRightByte_l0 : IR := .loop b_strings_trimRightByte_0
theorem r_strings_trimRightByte_0 {C : Cx} {fr : Fr} {h : List Ob} : evw C i_strings_trimRightByte_l0 fr h = nxt (evw C b_strings_trimRightByte_0 fr h) fun fr h => evw C i_strings_trimRightByte_l0 fr h := w_loop
def i_strings_trimRightByte : IR := .seq (.rg [⟨(some 4), none, .mov (.c (.str []))⟩] (some [0, 1]))
   (.seq (.blk 0 (i_strings_trimRightByte_l0))
   (.seq (.rg [⟨(some 22), none, .mov (.t 0)⟩,
    ⟨(some 4), none, .mov (.t 22)⟩] (some [4]))
   (.ret)))
def F_strings_trimRightByte : F := ⟨i_strings_trimRightByte, [(4, none)], false⟩
/-- strings.makeASCIISet -/
def b_strings_makeASCIISet_0 : IR := .seq (.seq (.rg [⟨(some 6), none, .mov (.t 4)⟩,
    ⟨(some 7), none, .mov (.t 0)⟩,
    ⟨(some 8), none, .slen (.t 7)⟩,
    ⟨(some 9), none, .bin .lss (.t 6) (.t 8)⟩] (some [0, 2, 4, 9]))
   (.cond (.t 9) (.skip) (.ext 0)))
   (.seq (.blk 1 (.seq (.rg [⟨(some 12), none, .mov (.t 0)⟩,
    ⟨(some 13), none, .mov (.t 4)⟩,
    ⟨(some 14), none, .ixs (.t 12) (.t 13)⟩,
    ⟨(some 5), none, .mov (.t 14)⟩] (some [0, 2, 4, 5]))
   (.seq (.seq (.rg [⟨(some 15), none, .mov (.t 5)⟩,
    ⟨(some 16), none, .bin .geq (.t 15) (.c (.int .u8 128))⟩] (some [0, 2, 4, 5, 16]))
   (.cond (.t 16) (.seq (.rg [⟨(some 17), none, .ld true 256 (.t 2)⟩,
    ⟨none, none, .st 256 (.t 2) (.t 17)⟩,
    ⟨(some 3), none, .mov (.c (.bool false))⟩] (some [2, 3]))
   (.ret)) (.skip)))
   (.rg [⟨(some 18), none, .mov (.t 5)⟩,
    ⟨(some 19), none, .op (.iaa 256 1) [(.t 2), (.t 18)]⟩,
    ⟨none, none, .st 1 (.t 19) (.c (.bool true))⟩] (some [0, 2, 4])))))
   (.rg [⟨(some 10), none, .mov (.t 4)⟩,
    ⟨(some 11), none, .bin .add (.t 10) (.c (.int .i64 1))⟩,
    ⟨(some 4), none, .mov (.t 11)⟩] (some [0, 2, 4])))
def i_strings_makeASCIISet_l0 : IR := .loop b_strings_makeASCIISet_0
theorem r_strings_makeASCIISet_0 {C : Cx} {fr : Fr} {h : List Ob} : evw C i_strings_makeASCIISet_l0 fr h = nxt (evw C b_strings_makeASCIISet_0 fr h) fun fr h => evw C i_strings_makeASCIISet_l0 fr h := w_loop
def i_strings_makeASCIISet : IR := .seq (.rg [⟨(some 2), none, .new (.agg [.bool false, .bool false, .bool false, .bool false, .bool false, .bool false, .bool false, .bool false, .bool false, .bool false, .bool false, .bool false, .bool false, .bool false, .bool false, .bool false, .bool false, .bool false, .bool false, .bool false, .bool false, .bool false, .bool false, .bool false, .bool false, .bool false, .bool false, .bool false, .bool false, .bool false, .bool false, .bool false, .bool false, .bool false, .bool false, .bool false, .bool false, .bool false, .bool false, .bool false, .bool false, .bool false, .bool false, .bool false, .bool false, .bool false, .bool false, .bool false, .bool false, .bool false, .bool false, .bool false, .bool false, .bool false, .bool false, .bool false, .bool false, .bool false, .bool false, .bool false, .bool false, .bool false, .bool false, .bool false, .bool false, .bool false, .bool false, .bool false, .bool false, .bool false, .bool false, .bool false, .bool false, .bool false, .bool false, .bool false, .bool false, .bool false, .bool false, .bool false, .bool false, .bool false, .bool false, .bool false, .bool false, .bool false, .bool false, .bool false, .bool false, .bool false, .bool false, .bool false, .bool false, .bool false, .bool false, .bool false, .bool false, .bool false, .bool false, .bool false, .bool false, .bool false, .bool false, .bool false, .bool false, .bool false, .bool false, .bool false, .bool false, .bool false, .bool false, .bool false, .bool false, .bool false, .bool false, .bool false, .bool false, .bool false, .bool false, .bool false, .bool false, .bool false, .bool false, .bool false, .bool false, .bool false, .bool false, .bool false, .bool false, .bool false, .bool false, .bool false, .bool false, .bool false, .bool false, .bool false, .bool false, .bool false, .bool false, .bool false, .bool false, .bool false, .bool false, .bool false, .bool false, .bool false, .bool false, .bool false, .bool false, .bool false, .bool false, .bool false, .bool false, .bool false, .bool false, .bool false, .bool false, .bool false, .bool false, .bool false, .bool false, .bool false, .bool false, .bool false, .bool false, .bool false, .bool false, .bool false, .bool false, .bool false, .bool false, .bool false, .bool false, .bool false, .bool false, .bool false, .bool false, .bool false, .bool false, .bool false, .bool false, .bool false, .bool false, .bool false, .bool false, .bool false, .bool false, .bool false, .bool false, .bool false, .bool false, .bool false, .bool false, .bool false, .bool false, .bool false, .bool false, .bool false, .bool false, .bool false, .bool false, .bool false, .bool false, .bool false, .bool false, .bool false, .bool false, .bool false, .bool false, .bool false, .bool false, .bool false, .bool false, .bool false, .bool false, .bool false, .bool false, .bool false, .bool false, .bool false, .bool false, .bool false, .bool false, .bool false, .bool false, .bool false, .bool false, .bool false, .bool false, .bool false, .bool false, .bool false, .bool false, .bool false, .bool false, .bool false, .bool false, .bool false, .bool false, .bool false, .bool false, .bool false, .bool false, .bool false, .bool false, .bool false, .bool false, .bool false, .bool false, .bool false, .bool false, .bool false, .bool false, .bool false, .bool false, .bool false])⟩,
    ⟨(some 3), none, .mov (.c (.bool false))⟩] (some [0, 2]))
   (.seq (.seq (.rg [⟨(some 4), none, .mov (.c (.int .i64 0))⟩] (some [0, 2, 4]))
   (.blk 0 (i_strings_makeASCIISet_l0)))
   (.seq (.rg [⟨(some 20), none, .ld true 256 (.t 2)⟩,
    ⟨none, none, .st 256 (.t 2) (.t 20)⟩,
    ⟨(some 3), none, .mov (.c (.bool true))⟩] (some [2, 3]))
   (.ret)))
def F_strings_makeASCIISet : F := ⟨i_strings_makeASCIISet, [(2, some (true, 256)), (3, none)], false⟩
/-- strings.trimLeftASCII -/
def b_strings_trimLeftASCII_0 : IR := .seq (.seq (.rg [⟨(some 5), none, .mov (.t 0)⟩,
    ⟨(some 6), none, .slen (.t 5)⟩,
    ⟨(some 7), none, .bin .gtr (.t 6) (.c (.int .i64 0))⟩] (some [0, 1, 7]))
   (.cond (.t 7) (.skip) (.ext 0)))
   (.blk 1 (.seq (.seq (.rg [⟨(some 8), none, .mov (.t 1)⟩,
    ⟨(some 9), none, .mov (.t 0)⟩,
    ⟨(some 10), none, .ixs (.t 9) (.c (.int .i64 0))⟩,
    ⟨(some 11), none, .call n_strings_asciiSet_contains [(.t 8), (.t 10)]⟩,
    ⟨(some 12), none, .un .not (.t 11)⟩] (some [0, 1, 12]))
   (.cond (.t 12) (.ext 0) (.skip)))
   (.rg [⟨(some 13), none, .mov (.t 0)⟩,
    ⟨(some 14), none, .sls (.t 13) (some (.c (.int .i64 1))) none⟩,
    ⟨(some 0), none, .mov (.t 14)⟩] (some [0, 1]))))
def i_strings_trimLeftASCII_l0 : IR := .loop b_strings_trimLeftASCII_0
theorem r_strings_trimLeftASCII_0 {C : Cx} {fr : Fr} {h : List Ob} : evw C i_strings_trimLeftASCII_l0 fr h = nxt (evw C b_strings_trimLeftASCII_0 fr h) fun fr h => evw C i_strings_trimLeftASCII_l0 fr h := w_loop
def i_strings_trimLeftASCII : IR := .seq (.rg [⟨(some 4), none, .mov (.c (.str []))⟩] (some [0, 1]))
   (.seq (.blk 0 (i_strings_trimLeftASCII_l0))
   (.seq (.rg [⟨(some 15), none, .mov (.t 0)⟩,
    ⟨(some 4), none, .mov (.t 15)⟩] (some [4]))
   (.ret)))
def F_strings_trimLeftASCII : F := ⟨i_strings_trimLeftASCII, [(4, none)], false⟩
/-- strings.trimRightASCII -/
def b_strings_trimRightASCII_0 : IR := .seq (.seq (.rg [⟨(some 5), none, .mov (.t 0)⟩,
    ⟨(some 6), none, .slen (.t 5)⟩,
    ⟨(some 7), none, .bin .gtr (.t 6) (.c (.int .i64 0))⟩] (some [0, 1, 7]))
   (.cond (.t 7) (.skip) (.ext 0)))
   (.blk 1 (.seq (.seq (.rg [⟨(some 8), none, .mov (.t 1)⟩,
    ⟨(some 9), none, .mov (.t 0)⟩,
    ⟨(some 10), none, .mov (.t 0)⟩,
    ⟨(some 11), none, .slen (.t 10)⟩,
    ⟨(some 12), none, .bin .sub (.t 11) (.c (.int .i64 1))⟩,
    ⟨(some 13), none, .ixs (.t 9) (.t 12)⟩,
    ⟨(some 14), none, .call n_strings_asciiSet_contains [(.t 8), (.t 13)]⟩,
    ⟨(some 15), none, .un .not (.t 14)⟩] (some [0, 1, 15]))
   (.cond (.t 15) (.ext 0) (.skip)))
   (.rg [⟨(some 16), none, .mov (.t 0)⟩,
    ⟨(some 17), none, .mov (.t 0)⟩,
    ⟨(some 18), none, .slen (.t 17)⟩,
    ⟨(some 19), none, .bin .sub (.t 18) (.c (.int .i64 1))⟩,
    ⟨(some 20), none, .sls (.t 16) none (some (.t 19))⟩,
    ⟨(some 0), none, .mov (.t 20)⟩] (some [0, 1]))))
def i_strings_trimRightASCII_l0 : IR := .loop b_strings_trimRightASCII_0
theorem r_strings_trimRightASCII_0 {C : Cx} {fr : Fr} {h : List Ob} : evw C i_strings_trimRightASCII_l0 fr h = nxt (evw C b_strings_trimRightASCII_0 fr h) fun fr h => evw C i_strings_trimRightASCII_l0 fr h := w_loop
def i_strings_trimRightASCII : IR := .seq (.rg [⟨(some 4), none, .mov (.c (.str []))⟩] (some [0, 1]))
   (.seq (.blk 0 (i_strings_trimRightASCII_l0))
   (.seq (.rg [⟨(some 21), none, .mov (.t 0)⟩,
    ⟨(some 4), none, .mov (.t 21)⟩] (some [4]))
   (.ret)))
def F_strings_trimRightASCII : F := ⟨i_strings_trimRightASCII, [(4, none)], false⟩
/-- strings.trimLeftUnicode -/
def b_strings_trimLeftUnicode_0 : IR := .seq (.seq (.rg [⟨(some 7), none, .mov (.t 0)⟩,
    ⟨(some 8), none, .slen (.t 7)⟩,
    ⟨(some 9), none, .bin .gtr (.t 8) (.c (.int .i64 0))⟩] (some [0, 1, 9]))
   (.cond (.t 9) (.skip) (.ext 0)))
   (.blk 1 (.seq (.rg [⟨(some 11), none, .mov (.t 0)⟩,
    ⟨(some 12), none, .call n_unicode_utf8_DecodeRuneInString [(.t 11)]⟩,
    ⟨(some 10), none, .mov (.t 12)⟩,
    ⟨(some 13), none, .ext (.t 10) 0⟩,
    ⟨(some 14), none, .ext (.t 10) 1⟩,
    ⟨(some 5), none, .mov (.t 13)⟩,
    ⟨(some 6), none, .mov (.t 14)⟩] (some [0, 1, 5, 6]))
   (.seq (.seq (.rg [⟨(some 15), none, .mov (.t 1)⟩,
    ⟨(some 16), none, .mov (.t 5)⟩,
    ⟨(some 17), none, .call n_strings_ContainsRune [(.t 15), (.t 16)]⟩,
    ⟨(some 18), none, .un .not (.t 17)⟩] (some [0, 1, 6, 18]))
   (.cond (.t 18) (.ext 0) (.skip)))
   (.rg [⟨(some 19), none, .mov (.t 0)⟩,
    ⟨(some 20), none, .mov (.t 6)⟩,
    ⟨(some 21), none, .sls (.t 19) (some (.t 20)) none⟩,
    ⟨(some 0), none, .mov (.t 21)⟩] (some [0, 1])))))
def i_strings_trimLeftUnicode_l0 : IR := .loop b_strings_trimLeftUnicode_0
theorem r_strings_trimLeftUnicode_0 {C : Cx} {fr : Fr} {h : List Ob} : evw C i_strings_trimLeftUnicode_l0 fr h = nxt (evw C b_strings_trimLeftUnicode_0 fr h) fun fr h => evw C i_strings_trimLeftUnicode_l0 fr h := w_loop
def i_strings_trimLeftUnicode : IR := .seq (.rg [⟨(some 4), none, .mov (.c (.str []))⟩] (some [0, 1]))
   (.seq (.blk 0 (i_strings_trimLeftUnicode_l0))
   (.seq (.rg [⟨(some 22), none, .mov (.t 0)⟩,
    ⟨(some 4), none, .mov (.t 22)⟩] (some [4]))
   (.ret)))
def F_strings_trimLeftUnicode : F := ⟨i_strings_trimLeftUnicode, [(4, none)], false⟩
/-- strings.trimRightUnicode -/
def b_strings_trimRightUnicode_0 : IR := .seq (.seq (.rg [⟨(some 7), none, .mov (.t 0)⟩,
    ⟨(some 8), none, .slen (.t 7)⟩,
    ⟨(some 9), none, .bin .gtr (.t 8) (.c (.int .i64 0))⟩] (some [0, 1, 9]))
   (.cond (.t 9) (.skip) (.ext 0)))
   (.blk 1 (.seq (.rg [⟨(some 10), none, .mov (.t 0)⟩,
    ⟨(some 11), none, .mov (.t 0)⟩,
    ⟨(some 12), none, .slen (.t 11)⟩,
    ⟨(some 13), none, .bin .sub (.t 12) (.c (.int .i64 1))⟩,
    ⟨(some 14), none, .ixs (.t 10) (.t 13)⟩,
    ⟨(some 15), none, .conv .i32 (.t 14)⟩,
    ⟨(some 5), none, .mov (.t 15)⟩,
    ⟨(some 6), none, .mov (.c (.int .i64 1))⟩] (some [0, 1, 5, 6]))
   (.seq (.seq (.rg [⟨(some 16), none, .mov (.t 5)⟩,
    ⟨(some 17), none, .bin .geq (.t 16) (.c (.int .i32 128))⟩] (some [0, 1, 5, 6, 17]))
   (.cond (.t 17) (.rg [⟨(some 19), none, .mov (.t 0)⟩,
    ⟨(some 20), none, .call n_unicode_utf8_DecodeLastRuneInString [(.t 19)]⟩,
    ⟨(some 18), none, .mov (.t 20)⟩,
    ⟨(some 21), none, .ext (.t 18) 0⟩,
    ⟨(some 22), none, .ext (.t 18) 1⟩,
    ⟨(some 5), none, .mov (.t 21)⟩,
    ⟨(some 6), none, .mov (.t 22)⟩] (some [0, 1, 5, 6])) (.skip)))
   (.seq (.seq (.rg [⟨(some 23), none, .mov (.t 1)⟩,
    ⟨(some 24), none, .mov (.t 5)⟩,
    ⟨(some 25), none, .call n_strings_ContainsRune [(.t 23), (.t 24)]⟩,
    ⟨(some 26), none, .un .not (.t 25)⟩] (some [0, 1, 6, 26]))
   (.cond (.t 26) (.ext 0) (.skip)))
   (.rg [⟨(some 27), none, .mov (.t 0)⟩,
    ⟨(some 28), none, .mov (.t 0)⟩,
    ⟨(some 29), none, .slen (.t 28)⟩,
    ⟨(some 30), none, .mov (.t 6)⟩,
    ⟨(some 31), none, .bin .sub (.t 29) (.t 30)⟩,
    ⟨(some 32), none, .sls (.t 27) none (some (.t 31))⟩,
    ⟨(some 0), none, .mov (.t 32)⟩] (some [0, 1]))))))
def i_strings_trimRightUnicode_l0 : IR := .loop b_strings_trimRightUnicode_0
theorem r_strings_trimRightUnicode_0 {C : Cx} {fr : Fr} {h : List Ob} : evw C i_strings_trimRightUnicode_l0 fr h = nxt (evw C b_strings_trimRightUnicode_0 fr h) fun fr h => evw C i_strings_trimRightUnicode_l0 fr h := w_loop
def i_strings_trimRightUnicode : IR := .seq (.rg [⟨(some 4), none, .mov (.c (.str []))⟩] (some [0, 1]))
   (.seq (.blk 0 (i_strings_trimRightUnicode_l0))
   (.seq (.rg [⟨(some 33), none, .mov (.t 0)⟩,
    ⟨(some 4), none, .mov (.t 33)⟩] (some [4]))
   (.ret)))
def F_strings_trimRightUnicode : F := ⟨i_strings_trimRightUnicode, [(4, none)], false⟩
/-- (stratagem/model.looker).variables -/
def b_model_looker_variables_0 : IR := .seq (.rg [⟨(some 27), none, .bin .lss (.t 26) (.t 25)⟩] (some [3, 24, 25, 26, 27]))
   (.seq (.cond (.t 27) (.skip) (.ext 0))
   (.seq (.blk 1 (.seq (.rg [⟨(some 28), none, .mov (.t 26)⟩,
    ⟨(some 29), none, .iad 1 (.t 24) (.t 26)⟩,
    ⟨(some 30), none, .ld false 1 (.t 29)⟩,
    ⟨(some 8), none, .mov (.t 28)⟩,
    ⟨(some 9), none, .mov (.t 30)⟩] (some [3, 8, 9, 24, 25, 26]))
   (.seq (.rg [⟨(some 31), none, .mov (.t 9)⟩,
    ⟨(some 32), none, .bin .lss (.t 31) (.c (.int .i64 0))⟩,
    ⟨(some 33), none, .mov (.t 32)⟩,
    ⟨(some 34), (some (33, false)), .mov (.t 9)⟩,
    ⟨(some 35), (some (33, false)), .fad 6 (.t 3)⟩,
    ⟨(some 36), (some (33, false)), .ld false 1 (.t 35)⟩,
    ⟨(some 37), (some (33, false)), .bin .geq (.t 34) (.t 36)⟩,
    ⟨(some 38), none, .pick (.t 33) (.c (.bool true)) (.t 37)⟩,
    ⟨(some 39), none, .mov (.t 38)⟩,
    ⟨(some 40), (some (39, false)), .fad 0 (.t 3)⟩,
    ⟨(some 41), (some (39, false)), .fad 1 (.t 40)⟩,
    ⟨(some 42), (some (39, false)), .ld false 1 (.t 41)⟩,
    ⟨(some 43), (some (39, false)), .mov (.t 8)⟩,
    ⟨(some 44), (some (39, false)), .sll 1 (.t 42) none (some (.t 43)) none⟩,
    ⟨(some 45), (some (39, false)), .mov (.t 9)⟩,
    ⟨(some 46), (some (39, false)), .call n_slices_Contains_sint_int [(.t 44), (.t 45)]⟩,
    ⟨(some 47), none, .pick (.t 39) (.c (.bool true)) (.t 46)⟩] (some [3, 24, 25, 26, 47]))
   (.cond (.t 47) (.seq (.rg [⟨(some 6), none, .mov (.c (.bool false))⟩] (some [6]))
   (.ret)) (.skip)))))
   (.rg [⟨(some 48), none, .bin .add (.t 26) (.c (.int .i64 1))⟩,
    ⟨(some 26), none, .mov (.t 48)⟩] (some [3, 24, 25, 26]))))
def i_model_looker_variables_l0 : IR := .loop b_model_looker_variables_0
theorem r_model_looker_variables_0 {C : Cx} {fr : Fr} {h : List Ob} : evw C i_model_looker_variables_l0 fr h = nxt (evw C b_model_looker_variables_0 fr h) fun fr h => evw C i_model_looker_variables_l0 fr h := w_loop
def i_model_looker_variables : IR := .seq (.rg [⟨(some 3), none, .box (.t 0)⟩,
    ⟨(some 6), none, .mov (.c (.bool false))⟩] (some [1, 2, 3]))
   (.seq (.rg [⟨(some 10), none, .fad 0 (.t 3)⟩,
    ⟨(some 11), none, .fad 1 (.t 10)⟩,
    ⟨(some 12), none, .ld false 1 (.t 11)⟩,
    ⟨(some 13), none, .len (.t 12)⟩,
    ⟨(some 7), none, .mov (.t 13)⟩] (some [1, 2, 3, 7]))
   (.seq (.seq (.rg [⟨(some 14), none, .mov (.t 7)⟩,
    ⟨(some 15), none, .mov (.t 1)⟩,
    ⟨(some 16), none, .bin .lss (.t 14) (.t 15)⟩,
    ⟨(some 17), none, .mov (.t 16)⟩,
    ⟨(some 18), (some (17, false)), .mov (.t 7)⟩,
    ⟨(some 19), (some (17, false)), .mov (.t 2)⟩,
    ⟨(some 20), (some (17, false)), .bin .gtr (.t 18) (.t 19)⟩,
    ⟨(some 21), none, .pick (.t 17) (.c (.bool true)) (.t 20)⟩] (some [3, 21]))
   (.cond (.t 21) (.seq (.rg [⟨(some 6), none, .mov (.c (.bool false))⟩] (some [6]))
   (.ret)) (.skip)))
   (.seq (.seq (.rg [⟨(some 22), none, .fad 0 (.t 3)⟩,
    ⟨(some 23), none, .fad 1 (.t 22)⟩,
    ⟨(some 24), none, .ld false 1 (.t 23)⟩,
    ⟨(some 25), none, .len (.t 24)⟩,
    ⟨(some 26), none, .mov (.c (.int .i64 0))⟩] (some [3, 24, 25, 26]))
   (.blk 0 (i_model_looker_variables_l0)))
   (.seq (.rg [⟨(some 6), none, .mov (.c (.bool true))⟩] (some [6]))
   (.ret)))))
def F_model_looker_variables : F := ⟨i_model_looker_variables, [(6, none)], false⟩
/-- (stratagem/model.looker).sum -/
def i_model_looker_sum : IR := .seq (.rg [⟨(some 2), none, .box (.t 0)⟩,
    ⟨(some 4), none, .mov (.c (.bool false))⟩] (some [1, 2]))
   (.seq (.rg [⟨(some 6), none, .fad 0 (.t 2)⟩,
    ⟨(some 7), none, .ld true 6 (.t 6)⟩,
    ⟨(some 5), none, .new (.agg [.int .i64 0, .nsl 1, .nsl 1, .int .i64 0, .int .i64 0, .nsl 1])⟩,
    ⟨none, none, .st 6 (.t 5) (.t 7)⟩] (some [1, 5]))
   (.seq (.rg [⟨(some 8), none, .fad 2 (.t 5)⟩,
    ⟨(some 9), none, .ld false 1 (.t 8)⟩,
    ⟨(some 10), none, .len (.t 9)⟩,
    ⟨(some 11), none, .fad 1 (.t 5)⟩,
    ⟨(some 12), none, .ld false 1 (.t 11)⟩,
    ⟨(some 13), none, .len (.t 12)⟩,
    ⟨(some 14), none, .mov (.t 1)⟩,
    ⟨(some 15), none, .bin .sub (.t 13) (.t 14)⟩,
    ⟨(some 16), none, .bin .eql (.t 10) (.t 15)⟩,
    ⟨(some 17), none, .mov (.t 16)⟩,
    ⟨(some 18), (some (17, true)), .fad 2 (.t 5)⟩,
    ⟨(some 19), (some (17, true)), .ld false 1 (.t 18)⟩,
    ⟨(some 20), (some (17, true)), .call n_model_within [(.t 19), (.c (.int .i64 1048576))]⟩,
    ⟨(some 21), none, .pick (.t 17) (.t 20) (.c (.bool false))⟩,
    ⟨(some 22), none, .mov (.t 21)⟩,
    ⟨(some 23), (some (22, true)), .fad 2 (.t 5)⟩,
    ⟨(some 24), (some (22, true)), .ld false 1 (.t 23)⟩,
    ⟨(some 25), (some (22, true)), .call n_slices_Contains_sint_int [(.t 24), (.c (.int .i64 0))]⟩,
    ⟨(some 26), (some (22, true)), .un .not (.t 25)⟩,
    ⟨(some 27), none, .pick (.t 22) (.t 26) (.c (.bool false))⟩,
    ⟨(some 28), none, .mov (.t 27)⟩,
    ⟨(some 29), (some (28, true)), .fad 3 (.t 5)⟩,
    ⟨(some 30), (some (28, true)), .ld false 1 (.t 29)⟩,
    ⟨(some 31), (some (28, true)), .bin .geq (.t 30) (.c (.int .i64 0))⟩,
    ⟨(some 32), none, .pick (.t 28) (.t 31) (.c (.bool false))⟩,
    ⟨(some 33), none, .mov (.t 32)⟩,
    ⟨(some 34), (some (33, true)), .fad 3 (.t 5)⟩,
    ⟨(some 35), (some (33, true)), .ld false 1 (.t 34)⟩,
    ⟨(some 36), (some (33, true)), .bin .leq (.t 35) (.c (.int .i64 5))⟩,
    ⟨(some 37), none, .pick (.t 33) (.t 36) (.c (.bool false))⟩,
    ⟨(some 38), none, .mov (.t 37)⟩,
    ⟨(some 39), (some (38, true)), .fad 4 (.t 5)⟩,
    ⟨(some 40), (some (38, true)), .ld false 1 (.t 39)⟩,
    ⟨(some 41), (some (38, true)), .bsf (.int .i64 0) 1 [(0, (.t 40))]⟩,
    ⟨(some 42), (some (38, true)), .call n_model_within [(.t 41), (.c (.int .i64 1099511627776))]⟩,
    ⟨(some 43), none, .pick (.t 38) (.t 42) (.c (.bool false))⟩,
    ⟨(some 44), none, .mov (.t 43)⟩,
    ⟨(some 45), (some (44, true)), .fad 5 (.t 5)⟩,
    ⟨(some 46), (some (44, true)), .ld false 1 (.t 45)⟩,
    ⟨(some 47), (some (44, true)), .len (.t 46)⟩,
    ⟨(some 48), (some (44, true)), .bin .eql (.t 47) (.c (.int .i64 0))⟩,
    ⟨(some 49), none, .pick (.t 44) (.t 48) (.c (.bool false))⟩,
    ⟨(some 4), none, .mov (.t 49)⟩] (some [4]))
   (.ret)))
def F_model_looker_sum : F := ⟨i_model_looker_sum, [(4, none)], false⟩
/-- (stratagem/model.looker).bare -/
def i_model_looker_bare : IR := .seq (.rg [⟨(some 3), none, .box (.t 0)⟩,
    ⟨(some 6), none, .mov (.c (.bool false))⟩] (some [1, 2, 3]))
   (.seq (.rg [⟨(some 8), none, .fad 0 (.t 3)⟩,
    ⟨(some 9), none, .ld true 6 (.t 8)⟩,
    ⟨(some 7), none, .new (.agg [.int .i64 0, .nsl 1, .nsl 1, .int .i64 0, .int .i64 0, .nsl 1])⟩,
    ⟨none, none, .st 6 (.t 7) (.t 9)⟩] (some [1, 2, 7]))
   (.seq (.rg [⟨(some 10), none, .fad 2 (.t 7)⟩,
    ⟨(some 11), none, .ld false 1 (.t 10)⟩,
    ⟨(some 12), none, .len (.t 11)⟩,
    ⟨(some 13), none, .bin .eql (.t 12) (.c (.int .i64 0))⟩,
    ⟨(some 14), none, .mov (.t 13)⟩,
    ⟨(some 15), (some (14, true)), .fad 3 (.t 7)⟩,
    ⟨(some 16), (some (14, true)), .ld false 1 (.t 15)⟩,
    ⟨(some 17), (some (14, true)), .bin .eql (.t 16) (.c (.int .i64 0))⟩,
    ⟨(some 18), none, .pick (.t 14) (.t 17) (.c (.bool false))⟩,
    ⟨(some 19), none, .mov (.t 18)⟩,
    ⟨(some 20), (some (19, true)), .fad 4 (.t 7)⟩,
    ⟨(some 21), (some (19, true)), .ld false 1 (.t 20)⟩,
    ⟨(some 22), (some (19, true)), .bin .eql (.t 21) (.c (.int .i64 0))⟩,
    ⟨(some 23), none, .pick (.t 19) (.t 22) (.c (.bool false))⟩,
    ⟨(some 24), none, .mov (.t 23)⟩,
    ⟨(some 25), (some (24, true)), .fad 5 (.t 7)⟩,
    ⟨(some 26), (some (24, true)), .ld false 1 (.t 25)⟩,
    ⟨(some 27), (some (24, true)), .len (.t 26)⟩,
    ⟨(some 28), (some (24, true)), .mov (.t 1)⟩,
    ⟨(some 29), (some (24, true)), .bin .geq (.t 27) (.t 28)⟩,
    ⟨(some 30), none, .pick (.t 24) (.t 29) (.c (.bool false))⟩,
    ⟨(some 31), none, .mov (.t 30)⟩,
    ⟨(some 32), (some (31, true)), .fad 5 (.t 7)⟩,
    ⟨(some 33), (some (31, true)), .ld false 1 (.t 32)⟩,
    ⟨(some 34), (some (31, true)), .len (.t 33)⟩,
    ⟨(some 35), (some (31, true)), .mov (.t 2)⟩,
    ⟨(some 36), (some (31, true)), .bin .leq (.t 34) (.t 35)⟩,
    ⟨(some 37), none, .pick (.t 31) (.t 36) (.c (.bool false))⟩,
    ⟨(some 38), none, .mov (.t 37)⟩,
    ⟨(some 39), (some (38, true)), .fad 5 (.t 7)⟩,
    ⟨(some 40), (some (38, true)), .ld false 1 (.t 39)⟩,
    ⟨(some 41), (some (38, true)), .call n_model_within [(.t 40), (.c (.int .i64 1048576))]⟩,
    ⟨(some 42), none, .pick (.t 38) (.t 41) (.c (.bool false))⟩,
    ⟨(some 6), none, .mov (.t 42)⟩] (some [6]))
   (.ret)))
def F_model_looker_bare : F := ⟨i_model_looker_bare, [(6, none)], false⟩
/-- slices.Index[[]int,int] -/
def b_slices_Index_sint_int_0 : IR := .seq (.rg [⟨(some 9), none, .bin .lss (.t 8) (.t 7)⟩] (some [0, 1, 7, 8, 9]))
   (.seq (.cond (.t 9) (.skip) (.ext 0))
   (.seq (.blk 1 (.seq (.rg [⟨(some 10), none, .mov (.t 8)⟩,
    ⟨(some 5), none, .mov (.t 10)⟩] (some [0, 1, 5, 7, 8]))
   (.seq (.rg [⟨(some 11), none, .mov (.t 1)⟩,
    ⟨(some 12), none, .mov (.t 0)⟩,
    ⟨(some 13), none, .mov (.t 5)⟩,
    ⟨(some 14), none, .iad 1 (.t 12) (.t 13)⟩,
    ⟨(some 15), none, .ld false 1 (.t 14)⟩,
    ⟨(some 16), none, .bin .eql (.t 11) (.t 15)⟩] (some [0, 1, 5, 7, 8, 16]))
   (.cond (.t 16) (.seq (.rg [⟨(some 17), none, .mov (.t 5)⟩,
    ⟨(some 4), none, .mov (.t 17)⟩] (some [4]))
   (.ret)) (.skip)))))
   (.rg [⟨(some 18), none, .bin .add (.t 8) (.c (.int .i64 1))⟩,
    ⟨(some 8), none, .mov (.t 18)⟩] (some [0, 1, 7, 8]))))
def i_slices_Index_sint_int_l0 : IR := .loop b_slices_Index_sint_int_0
theorem r_slices_Index_sint_int_0 {C : Cx} {fr : Fr} {h : List Ob} : evw C i_slices_Index_sint_int_l0 fr h = nxt (evw C b_slices_Index_sint_int_0 fr h) fun fr h => evw C i_slices_Index_sint_int_l0 fr h := w_loop
def i_slices_Index_sint_int : IR := .seq (.rg [⟨(some 4), none, .mov (.c (.int .i64 0))⟩] (some [0, 1]))
   (.seq (.seq (.rg [⟨(some 6), none, .mov (.t 0)⟩,
    ⟨(some 7), none, .len (.t 6)⟩,
    ⟨(some 8), none, .mov (.c (.int .i64 0))⟩] (some [0, 1, 7, 8]))
   (.blk 0 (i_slices_Index_sint_int_l0)))
   (.seq (.rg [⟨(some 4), none, .mov (.c (.int .i64 (-1)))⟩] (some [4]))
   (.ret)))
def F_slices_Index_sint_int : F := ⟨i_slices_Index_sint_int, [(4, none)], false⟩
/-- slices.IndexFunc[[]stratagem/api.Con,stratagem/api.Con] -/
def b_slices_IndexFunc_sapi_Con_api_Con_0 : IR := .seq (.rg [⟨(some 9), none, .bin .lss (.t 8) (.t 7)⟩] (some [0, 1, 7, 8, 9]))
   (.seq (.cond (.t 9) (.skip) (.ext 0))
   (.seq (.blk 1 (.seq (.rg [⟨(some 10), none, .mov (.t 8)⟩,
    ⟨(some 5), none, .mov (.t 10)⟩] (some [0, 1, 5, 7, 8]))
   (.seq (.rg [⟨(some 11), none, .mov (.t 1)⟩,
    ⟨(some 12), none, .mov (.t 0)⟩,
    ⟨(some 13), none, .mov (.t 5)⟩,
    ⟨(some 14), none, .iad 6 (.t 12) (.t 13)⟩,
    ⟨(some 15), none, .ld true 6 (.t 14)⟩,
    ⟨(some 16), none, .callv (.t 11) [(.t 15)]⟩] (some [0, 1, 5, 7, 8, 16]))
   (.cond (.t 16) (.seq (.rg [⟨(some 17), none, .mov (.t 5)⟩,
    ⟨(some 4), none, .mov (.t 17)⟩] (some [4]))
   (.ret)) (.skip)))))
   (.rg [⟨(some 18), none, .bin .add (.t 8) (.c (.int .i64 1))⟩,
    ⟨(some 8), none, .mov (.t 18)⟩] (some [0, 1, 7, 8]))))
def i_slices_IndexFunc_sapi_Con_api_Con_l0 : IR := .loop b_slices_IndexFunc_sapi_Con_api_Con_0
theorem r_slices_IndexFunc_sapi_Con_api_Con_0 {C : Cx} {fr : Fr} {h : List Ob} : evw C i_slices_IndexFunc_sapi_Con_api_Con_l0 fr h = nxt (evw C b_slices_IndexFunc_sapi_Con_api_Con_0 fr h) fun fr h => evw C i_slices_IndexFunc_sapi_Con_api_Con_l0 fr h := w_loop
def i_slices_IndexFunc_sapi_Con_api_Con : IR := .seq (.rg [⟨(some 4), none, .mov (.c (.int .i64 0))⟩] (some [0, 1]))
   (.seq (.seq (.rg [⟨(some 6), none, .mov (.t 0)⟩,
    ⟨(some 7), none, .len (.t 6)⟩,
    ⟨(some 8), none, .mov (.c (.int .i64 0))⟩] (some [0, 1, 7, 8]))
   (.blk 0 (i_slices_IndexFunc_sapi_Con_api_Con_l0)))
   (.seq (.rg [⟨(some 4), none, .mov (.c (.int .i64 (-1)))⟩] (some [4]))
   (.ret)))
def F_slices_IndexFunc_sapi_Con_api_Con : F := ⟨i_slices_IndexFunc_sapi_Con_api_Con, [(4, none)], false⟩
/-- (*strings.asciiSet).contains -/
def i_strings_asciiSet_contains : IR := .seq (.rg [⟨(some 4), none, .mov (.c (.bool false))⟩] (some [0, 1]))
   (.seq (.rg [⟨(some 5), none, .mov (.t 0)⟩,
    ⟨(some 6), none, .mov (.t 1)⟩,
    ⟨(some 7), none, .nck (.t 5)⟩,
    ⟨(some 8), none, .op (.iaa 256 1) [(.t 7), (.t 6)]⟩,
    ⟨(some 9), none, .ld false 1 (.t 8)⟩,
    ⟨(some 4), none, .mov (.t 9)⟩] (some [4]))
   (.ret))
def F_strings_asciiSet_contains : F := ⟨i_strings_asciiSet_contains, [(4, none)], false⟩
/-- unicode/utf8.DecodeRuneInString -/
def i_unicode_utf8_DecodeRuneInString : IR := .seq (.rg [⟨(some 2), none, .mov (.c (.int .i32 0))⟩,
    ⟨(some 3), none, .mov (.c (.int .i64 0))⟩] (some [0]))
   (.seq (.seq (.rg [⟨(some 4), none, .mov (.t 0)⟩,
    ⟨(some 5), none, .bin .neq (.t 4) (.c (.str []))⟩,
    ⟨(some 6), none, .mov (.t 5)⟩,
    ⟨(some 7), (some (6, true)), .mov (.t 0)⟩,
    ⟨(some 8), (some (6, true)), .ixs (.t 7) (.c (.int .i64 0))⟩,
    ⟨(some 9), (some (6, true)), .bin .lss (.t 8) (.c (.int .u8 128))⟩,
    ⟨(some 10), none, .pick (.t 6) (.t 9) (.c (.bool false))⟩] (some [0, 10]))
   (.cond (.t 10) (.seq (.rg [⟨(some 11), none, .mov (.t 0)⟩,
    ⟨(some 12), none, .ixs (.t 11) (.c (.int .i64 0))⟩,
    ⟨(some 13), none, .conv .i32 (.t 12)⟩,
    ⟨(some 2), none, .mov (.t 13)⟩,
    ⟨(some 3), none, .mov (.c (.int .i64 1))⟩] (some [2, 3]))
   (.ret)) (.rg [⟨(some 15), none, .mov (.t 0)⟩,
    ⟨(some 16), none, .call n_unicode_utf8_decodeRuneInStringSlow [(.t 15)]⟩,
    ⟨(some 14), none, .mov (.t 16)⟩,
    ⟨(some 17), none, .ext (.t 14) 0⟩,
    ⟨(some 18), none, .ext (.t 14) 1⟩,
    ⟨(some 2), none, .mov (.t 17)⟩,
    ⟨(some 3), none, .mov (.t 18)⟩] (some [2, 3]))))
   (.ret))
def F_unicode_utf8_DecodeRuneInString : F := ⟨i_unicode_utf8_DecodeRuneInString, [(2, none), (3, none)], false⟩
/-- strings.ContainsRune -/
def i_strings_ContainsRune : IR := .seq (.rg [⟨(some 4), none, .mov (.c (.bool false))⟩] (some [0, 1]))
   (.seq (.rg [⟨(some 5), none, .mov (.t 0)⟩,
    ⟨(some 6), none, .mov (.t 1)⟩,
    ⟨(some 7), none, .call n_strings_IndexRune [(.t 5), (.t 6)]⟩,
    ⟨(some 8), none, .bin .geq (.t 7) (.c (.int .i64 0))⟩,
    ⟨(some 4), none, .mov (.t 8)⟩] (some [4]))
   (.ret))
def F_strings_ContainsRune : F := ⟨i_strings_ContainsRune, [(4, none)], false⟩
/-- unicode/utf8.DecodeLastRuneInString -/
def b_unicode_utf8_DecodeLastRuneInString_0 : IR := .seq (.seq (.rg [⟨(some 25), none, .mov (.t 5)⟩,
    ⟨(some 26), none, .mov (.t 6)⟩,
    ⟨(some 27), none, .bin .geq (.t 25) (.t 26)⟩] (some [0, 4, 5, 6, 27]))
   (.cond (.t 27) (.skip) (.ext 0)))
   (.seq (.blk 1 (.seq (.rg [⟨(some 30), none, .mov (.t 0)⟩,
    ⟨(some 31), none, .mov (.t 5)⟩,
    ⟨(some 32), none, .ixs (.t 30) (.t 31)⟩,
    ⟨(some 33), none, .call n_unicode_utf8_RuneStart [(.t 32)]⟩] (some [0, 4, 5, 6, 33]))
   (.cond (.t 33) (.ext 0) (.skip))))
   (.rg [⟨(some 28), none, .mov (.t 5)⟩,
    ⟨(some 29), none, .bin .sub (.t 28) (.c (.int .i64 1))⟩,
    ⟨(some 5), none, .mov (.t 29)⟩] (some [0, 4, 5, 6])))
def i_unicode_utf8_DecodeLastRuneInString_l0 : IR := .loop b_unicode_utf8_DecodeLastRuneInString_0
theorem r_unicode_utf8_DecodeLastRuneInString_0 {C : Cx} {fr : Fr} {h : List Ob} : evw C i_unicode_utf8_DecodeLastRuneInString_l0 fr h = nxt (evw C b_unicode_utf8_DecodeLastRuneInString_0 fr h) fun fr h => evw C i_unicode_utf8_DecodeLastRuneInString_l0 fr h := w_loop
def i_unicode_utf8_DecodeLastRuneInString : IR := .seq (.rg [⟨(some 2), none, .mov (.c (.int .i32 0))⟩,
    ⟨(some 3), none, .mov (.c (.int .i64 0))⟩] (some [0]))
   (.seq (.rg [⟨(some 7), none, .mov (.t 0)⟩,
    ⟨(some 8), none, .slen (.t 7)⟩,
    ⟨(some 4), none, .mov (.t 8)⟩] (some [0, 4]))
   (.seq (.seq (.rg [⟨(some 9), none, .mov (.t 4)⟩,
    ⟨(some 10), none, .bin .eql (.t 9) (.c (.int .i64 0))⟩] (some [0, 4, 10]))
   (.cond (.t 10) (.seq (.rg [⟨(some 2), none, .mov (.c (.int .i32 65533))⟩,
    ⟨(some 3), none, .mov (.c (.int .i64 0))⟩] (some [2, 3]))
   (.ret)) (.skip)))
   (.seq (.rg [⟨(some 11), none, .mov (.t 4)⟩,
    ⟨(some 12), none, .bin .sub (.t 11) (.c (.int .i64 1))⟩,
    ⟨(some 5), none, .mov (.t 12)⟩] (some [0, 4, 5]))
   (.seq (.rg [⟨(some 13), none, .mov (.t 0)⟩,
    ⟨(some 14), none, .mov (.t 5)⟩,
    ⟨(some 15), none, .ixs (.t 13) (.t 14)⟩,
    ⟨(some 16), none, .conv .i32 (.t 15)⟩,
    ⟨(some 2), none, .mov (.t 16)⟩] (some [0, 2, 4, 5]))
   (.seq (.seq (.rg [⟨(some 17), none, .mov (.t 2)⟩,
    ⟨(some 18), none, .bin .lss (.t 17) (.c (.int .i32 128))⟩] (some [0, 2, 4, 5, 18]))
   (.cond (.t 18) (.seq (.rg [⟨(some 19), none, .mov (.t 2)⟩,
    ⟨(some 2), none, .mov (.t 19)⟩,
    ⟨(some 3), none, .mov (.c (.int .i64 1))⟩] (some [2, 3]))
   (.ret)) (.skip)))
   (.seq (.rg [⟨(some 20), none, .mov (.t 4)⟩,
    ⟨(some 21), none, .bin .sub (.t 20) (.c (.int .i64 4))⟩,
    ⟨(some 22), none, .mxn true [(.t 21), (.c (.int .i64 0))]⟩,
    ⟨(some 6), none, .mov (.t 22)⟩] (some [0, 4, 5, 6]))
   (.seq (.seq (.rg [⟨(some 23), none, .mov (.t 5)⟩,
    ⟨(some 24), none, .bin .sub (.t 23) (.c (.int .i64 1))⟩,
    ⟨(some 5), none, .mov (.t 24)⟩] (some [0, 4, 5, 6]))
   (.blk 0 (i_unicode_utf8_DecodeLastRuneInString_l0)))
   (.seq (.seq (.rg [⟨(some 34), none, .mov (.t 5)⟩,
    ⟨(some 35), none, .bin .lss (.t 34) (.c (.int .i64 0))⟩] (some [0, 4, 5, 35]))
   (.cond (.t 35) (.rg [⟨(some 5), none, .mov (.c (.int .i64 0))⟩] (some [0, 4, 5])) (.skip)))
   (.seq (.rg [⟨(some 37), none, .mov (.t 0)⟩,
    ⟨(some 38), none, .mov (.t 5)⟩,
    ⟨(some 39), none, .mov (.t 4)⟩,
    ⟨(some 40), none, .sls (.t 37) (some (.t 38)) (some (.t 39))⟩,
    ⟨(some 41), none, .call n_unicode_utf8_DecodeRuneInString [(.t 40)]⟩,
    ⟨(some 36), none, .mov (.t 41)⟩,
    ⟨(some 42), none, .ext (.t 36) 0⟩,
    ⟨(some 43), none, .ext (.t 36) 1⟩,
    ⟨(some 2), none, .mov (.t 42)⟩,
    ⟨(some 3), none, .mov (.t 43)⟩] (some [2, 3, 4, 5]))
   (.seq (.seq (.rg [⟨(some 44), none, .mov (.t 5)⟩,
    ⟨(some 45), none, .mov (.t 3)⟩,
    ⟨(some 46), none, .bin .add (.t 44) (.t 45)⟩,
    ⟨(some 47), none, .mov (.t 4)⟩,
    ⟨(some 48), none, .bin .neq (.t 46) (.t 47)⟩] (some [2, 3, 48]))
   (.cond (.t 48) (.seq (.rg [⟨(some 2), none, .mov (.c (.int .i32 65533))⟩,
    ⟨(some 3), none, .mov (.c (.int .i64 1))⟩] (some [2, 3]))
   (.ret)) (.skip)))
   (.seq (.rg [⟨(some 49), none, .mov (.t 2)⟩,
    ⟨(some 50), none, .mov (.t 3)⟩,
    ⟨(some 2), none, .mov (.t 49)⟩,
    ⟨(some 3), none, .mov (.t 50)⟩] (some [2, 3]))
   (.ret))))))))))))
def F_unicode_utf8_DecodeLastRuneInString : F := ⟨i_unicode_utf8_DecodeLastRuneInString, [(2, none), (3, none)], false⟩
/-- stratagem/model.within -/
def i_model_within : IR := .seq (.rg [⟨(some 3), none, .box (.t 1)⟩,
    ⟨(some 4), none, .mov (.c (.bool false))⟩] (some [0, 3]))
   (.seq (.rg [⟨(some 5), none, .mov (.t 0)⟩,
    ⟨(some 6), none, .mkf (.func n_model_within_1) [] [(.t 3)]⟩,
    ⟨(some 7), none, .call n_slices_ContainsFunc_sint_int [(.t 5), (.t 6)]⟩,
    ⟨(some 8), none, .un .not (.t 7)⟩,
    ⟨(some 4), none, .mov (.t 8)⟩] (some [4]))
   (.ret))
def F_model_within : F := ⟨i_model_within, [(4, none)], false⟩
/-- unicode/utf8.RuneStart -/
def i_unicode_utf8_RuneStart : IR := .seq (.rg [⟨(some 2), none, .mov (.c (.bool false))⟩] (some [0]))
   (.seq (.rg [⟨(some 3), none, .mov (.t 0)⟩,
    ⟨(some 4), none, .bin .and (.t 3) (.c (.int .u8 192))⟩,
    ⟨(some 5), none, .bin .neq (.t 4) (.c (.int .u8 128))⟩,
    ⟨(some 2), none, .mov (.t 5)⟩] (some [2]))
   (.ret))
def F_unicode_utf8_RuneStart : F := ⟨i_unicode_utf8_RuneStart, [(2, none)], false⟩
/-- slices.ContainsFunc[[]int,int] -/
def i_slices_ContainsFunc_sint_int : IR := .seq (.rg [⟨(some 4), none, .mov (.c (.bool false))⟩] (some [0, 1]))
   (.seq (.rg [⟨(some 5), none, .mov (.t 0)⟩,
    ⟨(some 6), none, .mov (.t 1)⟩,
    ⟨(some 7), none, .call n_slices_IndexFunc_sint_int [(.t 5), (.t 6)]⟩,
    ⟨(some 8), none, .bin .geq (.t 7) (.c (.int .i64 0))⟩,
    ⟨(some 4), none, .mov (.t 8)⟩] (some [4]))
   (.ret))
def F_slices_ContainsFunc_sint_int : F := ⟨i_slices_ContainsFunc_sint_int, [(4, none)], false⟩
/-- stratagem/model.within$1 -/
def i_model_within_1 : IR := .seq (.rg [⟨(some 3), none, .mov (.c (.bool false))⟩] (some [0, 1]))
   (.seq (.rg [⟨(some 4), none, .mov (.t 0)⟩,
    ⟨(some 5), none, .ld false 1 (.t 1)⟩,
    ⟨(some 6), none, .un .neg (.t 5)⟩,
    ⟨(some 7), none, .bin .lss (.t 4) (.t 6)⟩,
    ⟨(some 8), none, .mov (.t 7)⟩,
    ⟨(some 9), (some (8, false)), .mov (.t 0)⟩,
    ⟨(some 10), (some (8, false)), .ld false 1 (.t 1)⟩,
    ⟨(some 11), (some (8, false)), .bin .gtr (.t 9) (.t 10)⟩,
    ⟨(some 12), none, .pick (.t 8) (.c (.bool true)) (.t 11)⟩,
    ⟨(some 3), none, .mov (.t 12)⟩] (some [3]))
   (.ret))
def F_model_within_1 : F := ⟨i_model_within_1, [(3, none)], false⟩
/-- slices.IndexFunc[[]int,int] -/
def b_slices_IndexFunc_sint_int_0 : IR := .seq (.rg [⟨(some 9), none, .bin .lss (.t 8) (.t 7)⟩] (some [0, 1, 7, 8, 9]))
   (.seq (.cond (.t 9) (.skip) (.ext 0))
   (.seq (.blk 1 (.seq (.rg [⟨(some 10), none, .mov (.t 8)⟩,
    ⟨(some 5), none, .mov (.t 10)⟩] (some [0, 1, 5, 7, 8]))
   (.seq (.rg [⟨(some 11), none, .mov (.t 1)⟩,
    ⟨(some 12), none, .mov (.t 0)⟩,
    ⟨(some 13), none, .mov (.t 5)⟩,
    ⟨(some 14), none, .iad 1 (.t 12) (.t 13)⟩,
    ⟨(some 15), none, .ld false 1 (.t 14)⟩,
    ⟨(some 16), none, .callv (.t 11) [(.t 15)]⟩] (some [0, 1, 5, 7, 8, 16]))
   (.cond (.t 16) (.seq (.rg [⟨(some 17), none, .mov (.t 5)⟩,
    ⟨(some 4), none, .mov (.t 17)⟩] (some [4]))
   (.ret)) (.skip)))))
   (.rg [⟨(some 18), none, .bin .add (.t 8) (.c (.int .i64 1))⟩,
    ⟨(some 8), none, .mov (.t 18)⟩] (some [0, 1, 7, 8]))))
def i_slices_IndexFunc_sint_int_l0 : IR := .loop b_slices_IndexFunc_sint_int_0
theorem r_slices_IndexFunc_sint_int_0 {C : Cx} {fr : Fr} {h : List Ob} : evw C i_slices_IndexFunc_sint_int_l0 fr h = nxt (evw C b_slices_IndexFunc_sint_int_0 fr h) fun fr h => evw C i_slices_IndexFunc_sint_int_l0 fr h := w_loop
def i_slices_IndexFunc_sint_int : IR := .seq (.rg [⟨(some 4), none, .mov (.c (.int .i64 0))⟩] (some [0, 1]))
   (.seq (.seq (.rg [⟨(some 6), none, .mov (.t 0)⟩,
    ⟨(some 7), none, .len (.t 6)⟩,
    ⟨(some 8), none, .mov (.c (.int .i64 0))⟩] (some [0, 1, 7, 8]))
   (.blk 0 (i_slices_IndexFunc_sint_int_l0)))
   (.seq (.rg [⟨(some 4), none, .mov (.c (.int .i64 (-1)))⟩] (some [4]))
   (.ret)))
def F_slices_IndexFunc_sint_int : F := ⟨i_slices_IndexFunc_sint_int, [(4, none)], false⟩
theorem ok_law08_ModelTells : mF Go.Proofs.Tryd.prog n_law08_ModelTells F_law08_ModelTells = true := by kernel_rfl
theorem ok_law08_ModelLess : mF Go.Proofs.Tryd.prog n_law08_ModelLess F_law08_ModelLess = true := by kernel_rfl
theorem ok_law08_ModelNodes : mF Go.Proofs.Tryd.prog n_law08_ModelNodes F_law08_ModelNodes = true := by kernel_rfl
theorem ok_law08_awake : mF Go.Proofs.Tryd.prog n_law08_awake F_law08_awake = true := by kernel_rfl
theorem ok_law08_Large : mF Go.Proofs.Tryd.prog n_law08_Large F_law08_Large = true := by kernel_rfl
theorem ok_law08_cons : mF Go.Proofs.Tryd.prog n_law08_cons F_law08_cons = true := by kernel_rfl
theorem ok_model_Check : mF Go.Proofs.Tryd.prog n_model_Check F_model_Check = true := by kernel_rfl
theorem ok_ref08_Check : mF Go.Proofs.Tryd.prog n_ref08_Check F_ref08_Check = true := by kernel_rfl
theorem ok_model_Name : mF Go.Proofs.Tryd.prog n_model_Name F_model_Name = true := by kernel_rfl
theorem ok_ref08_Name : mF Go.Proofs.Tryd.prog n_ref08_Name F_ref08_Name = true := by kernel_rfl
theorem ok_model_Right : mF Go.Proofs.Tryd.prog n_model_Right F_model_Right = true := by kernel_rfl
theorem ok_ref08_Right : mF Go.Proofs.Tryd.prog n_ref08_Right F_ref08_Right = true := by kernel_rfl
theorem ok_ref08_Decls : mF Go.Proofs.Tryd.prog n_ref08_Decls F_ref08_Decls = true := by kernel_rfl
theorem ok_model_Vars : mF Go.Proofs.Tryd.prog n_model_Vars F_model_Vars = true := by kernel_rfl
theorem ok_ref08_Vars : mF Go.Proofs.Tryd.prog n_ref08_Vars F_ref08_Vars = true := by kernel_rfl
theorem ok_ref02_Same : mF Go.Proofs.Tryd.prog n_ref02_Same F_ref02_Same = true := by kernel_rfl
theorem ok_model_Ends : mF Go.Proofs.Tryd.prog n_model_Ends F_model_Ends = true := by kernel_rfl
theorem ok_ref08_Ends : mF Go.Proofs.Tryd.prog n_ref08_Ends F_ref08_Ends = true := by kernel_rfl
theorem ok_model_Same : mF Go.Proofs.Tryd.prog n_model_Same F_model_Same = true := by kernel_rfl
theorem ok_ref08_Same : mF Go.Proofs.Tryd.prog n_ref08_Same F_ref08_Same = true := by kernel_rfl
theorem ok_model_Nodes : mF Go.Proofs.Tryd.prog n_model_Nodes F_model_Nodes = true := by kernel_rfl
theorem ok_ref08_Nodes : mF Go.Proofs.Tryd.prog n_ref08_Nodes F_ref08_Nodes = true := by kernel_rfl
theorem ok_ref03_Same : mF Go.Proofs.Tryd.prog n_ref03_Same F_ref03_Same = true := by kernel_rfl
theorem ok_law08_small : mF Go.Proofs.Tryd.prog n_law08_small F_law08_small = true := by kernel_rfl
theorem ok_model_big : mF Go.Proofs.Tryd.prog n_model_big F_model_big = true := by kernel_rfl
theorem ok_slices_ContainsFunc_sapi_Block_api_Block : mF Go.Proofs.Tryd.prog n_slices_ContainsFunc_sapi_Block_api_Block F_slices_ContainsFunc_sapi_Block_api_Block = true := by kernel_rfl
theorem ok_model_Check_1 : mF Go.Proofs.Tryd.prog n_model_Check_1 F_model_Check_1 = true := by kernel_rfl
theorem ok_slices_ContainsFunc_sapi_Decl_api_Decl : mF Go.Proofs.Tryd.prog n_slices_ContainsFunc_sapi_Decl_api_Decl F_slices_ContainsFunc_sapi_Decl_api_Decl = true := by kernel_rfl
theorem ok_model_Check_2 : mF Go.Proofs.Tryd.prog n_model_Check_2 F_model_Check_2 = true := by kernel_rfl
theorem ok_model_Check_3 : mF Go.Proofs.Tryd.prog n_model_Check_3 F_model_Check_3 = true := by kernel_rfl
theorem ok_model_Check_4 : mF Go.Proofs.Tryd.prog n_model_Check_4 F_model_Check_4 = true := by kernel_rfl
theorem ok_spans_Size : mF Go.Proofs.Tryd.prog n_spans_Size F_spans_Size = true := by kernel_rfl
theorem ok_model_wrong : mF Go.Proofs.Tryd.prog n_model_wrong F_model_wrong = true := by kernel_rfl
theorem ok_ref03_Size : mF Go.Proofs.Tryd.prog n_ref03_Size F_ref03_Size = true := by kernel_rfl
theorem ok_strings_Contains : mF Go.Proofs.Tryd.prog n_strings_Contains F_strings_Contains = true := by kernel_rfl
theorem ok_strings_Trim : mF Go.Proofs.Tryd.prog n_strings_Trim F_strings_Trim = true := by kernel_rfl
theorem ok_model_looker_linear : mF Go.Proofs.Tryd.prog n_model_looker_linear F_model_looker_linear = true := by kernel_rfl
theorem ok_model_looker_product : mF Go.Proofs.Tryd.prog n_model_looker_product F_model_looker_product = true := by kernel_rfl
theorem ok_model_looker_iff : mF Go.Proofs.Tryd.prog n_model_looker_iff F_model_looker_iff = true := by kernel_rfl
theorem ok_model_looker_element : mF Go.Proofs.Tryd.prog n_model_looker_element F_model_looker_element = true := by kernel_rfl
theorem ok_model_looker_differ : mF Go.Proofs.Tryd.prog n_model_looker_differ F_model_looker_differ = true := by kernel_rfl
theorem ok_model_looker_table : mF Go.Proofs.Tryd.prog n_model_looker_table F_model_looker_table = true := by kernel_rfl
theorem ok_ref08_all : mF Go.Proofs.Tryd.prog n_ref08_all F_ref08_all = true := by kernel_rfl
theorem ok_model_Same_1 : mF Go.Proofs.Tryd.prog n_model_Same_1 F_model_Same_1 = true := by kernel_rfl
theorem ok_slices_Equal_sapi_Span_api_Span : mF Go.Proofs.Tryd.prog n_slices_Equal_sapi_Span_api_Span F_slices_Equal_sapi_Span_api_Span = true := by kernel_rfl
theorem ok_model_Same_2 : mF Go.Proofs.Tryd.prog n_model_Same_2 F_model_Same_2 = true := by kernel_rfl
theorem ok_slices_EqualFunc_sapi_Decl_sapi_Decl_api_Decl_api_Decl : mF Go.Proofs.Tryd.prog n_slices_EqualFunc_sapi_Decl_sapi_Decl_api_Decl_api_Decl F_slices_EqualFunc_sapi_Decl_sapi_Decl_api_Decl_api_Decl = true := by kernel_rfl
theorem ok_slices_EqualFunc_sapi_Con_sapi_Con_api_Con_api_Con : mF Go.Proofs.Tryd.prog n_slices_EqualFunc_sapi_Con_sapi_Con_api_Con_api_Con F_slices_EqualFunc_sapi_Con_sapi_Con_api_Con_api_Con = true := by kernel_rfl
theorem ok_model_alike : mF Go.Proofs.Tryd.prog n_model_alike F_model_alike = true := by kernel_rfl
theorem ok_slices_EqualFunc_sapi_Block_sapi_Block_api_Block_api_Block : mF Go.Proofs.Tryd.prog n_slices_EqualFunc_sapi_Block_sapi_Block_api_Block_api_Block F_slices_EqualFunc_sapi_Block_sapi_Block_api_Block_api_Block = true := by kernel_rfl
theorem ok_ref08_Alike : mF Go.Proofs.Tryd.prog n_ref08_Alike F_ref08_Alike = true := by kernel_rfl
theorem ok_slices_Contains_sint_int : mF Go.Proofs.Tryd.prog n_slices_Contains_sint_int F_slices_Contains_sint_int = true := by kernel_rfl
theorem ok_slices_Equal_sint_int : mF Go.Proofs.Tryd.prog n_slices_Equal_sint_int F_slices_Equal_sint_int = true := by kernel_rfl
theorem ok_model_big_1 : mF Go.Proofs.Tryd.prog n_model_big_1 F_model_big_1 = true := by kernel_rfl
theorem ok_slices_IndexFunc_sapi_Block_api_Block : mF Go.Proofs.Tryd.prog n_slices_IndexFunc_sapi_Block_api_Block F_slices_IndexFunc_sapi_Block_api_Block = true := by kernel_rfl
theorem ok_slices_IndexFunc_sapi_Decl_api_Decl : mF Go.Proofs.Tryd.prog n_slices_IndexFunc_sapi_Decl_api_Decl F_slices_IndexFunc_sapi_Decl_api_Decl = true := by kernel_rfl
theorem ok_spans_Right : mF Go.Proofs.Tryd.prog n_spans_Right F_spans_Right = true := by kernel_rfl
theorem ok_slices_ContainsFunc_sapi_Con_api_Con : mF Go.Proofs.Tryd.prog n_slices_ContainsFunc_sapi_Con_api_Con F_slices_ContainsFunc_sapi_Con_api_Con = true := by kernel_rfl
theorem ok_model_wrong_1 : mF Go.Proofs.Tryd.prog n_model_wrong_1 F_model_wrong_1 = true := by kernel_rfl
theorem ok_model_wrong_2 : mF Go.Proofs.Tryd.prog n_model_wrong_2 F_model_wrong_2 = true := by kernel_rfl
theorem ok_ref03_Right : mF Go.Proofs.Tryd.prog n_ref03_Right F_ref03_Right = true := by kernel_rfl
theorem ok_strings_Index : mF Go.Proofs.Tryd.prog n_strings_Index F_strings_Index = true := by kernel_rfl
theorem ok_strings_trimLeftByte : mF Go.Proofs.Tryd.prog n_strings_trimLeftByte F_strings_trimLeftByte = true := by kernel_rfl
theorem ok_strings_trimRightByte : mF Go.Proofs.Tryd.prog n_strings_trimRightByte F_strings_trimRightByte = true := by kernel_rfl
theorem ok_strings_makeASCIISet : mF Go.Proofs.Tryd.prog n_strings_makeASCIISet F_strings_makeASCIISet = true := by kernel_rfl
theorem ok_strings_trimLeftASCII : mF Go.Proofs.Tryd.prog n_strings_trimLeftASCII F_strings_trimLeftASCII = true := by kernel_rfl
theorem ok_strings_trimRightASCII : mF Go.Proofs.Tryd.prog n_strings_trimRightASCII F_strings_trimRightASCII = true := by kernel_rfl
theorem ok_strings_trimLeftUnicode : mF Go.Proofs.Tryd.prog n_strings_trimLeftUnicode F_strings_trimLeftUnicode = true := by kernel_rfl
theorem ok_strings_trimRightUnicode : mF Go.Proofs.Tryd.prog n_strings_trimRightUnicode F_strings_trimRightUnicode = true := by kernel_rfl
theorem ok_model_looker_variables : mF Go.Proofs.Tryd.prog n_model_looker_variables F_model_looker_variables = true := by kernel_rfl
theorem ok_model_looker_sum : mF Go.Proofs.Tryd.prog n_model_looker_sum F_model_looker_sum = true := by kernel_rfl
theorem ok_model_looker_bare : mF Go.Proofs.Tryd.prog n_model_looker_bare F_model_looker_bare = true := by kernel_rfl
theorem ok_slices_Index_sint_int : mF Go.Proofs.Tryd.prog n_slices_Index_sint_int F_slices_Index_sint_int = true := by kernel_rfl
theorem ok_slices_IndexFunc_sapi_Con_api_Con : mF Go.Proofs.Tryd.prog n_slices_IndexFunc_sapi_Con_api_Con F_slices_IndexFunc_sapi_Con_api_Con = true := by kernel_rfl
theorem ok_strings_asciiSet_contains : mF Go.Proofs.Tryd.prog n_strings_asciiSet_contains F_strings_asciiSet_contains = true := by kernel_rfl
theorem ok_unicode_utf8_DecodeRuneInString : mF Go.Proofs.Tryd.prog n_unicode_utf8_DecodeRuneInString F_unicode_utf8_DecodeRuneInString = true := by kernel_rfl
theorem ok_strings_ContainsRune : mF Go.Proofs.Tryd.prog n_strings_ContainsRune F_strings_ContainsRune = true := by kernel_rfl
theorem ok_unicode_utf8_DecodeLastRuneInString : mF Go.Proofs.Tryd.prog n_unicode_utf8_DecodeLastRuneInString F_unicode_utf8_DecodeLastRuneInString = true := by kernel_rfl
theorem ok_model_within : mF Go.Proofs.Tryd.prog n_model_within F_model_within = true := by kernel_rfl
theorem ok_unicode_utf8_RuneStart : mF Go.Proofs.Tryd.prog n_unicode_utf8_RuneStart F_unicode_utf8_RuneStart = true := by kernel_rfl
theorem ok_slices_ContainsFunc_sint_int : mF Go.Proofs.Tryd.prog n_slices_ContainsFunc_sint_int F_slices_ContainsFunc_sint_int = true := by kernel_rfl
theorem ok_model_within_1 : mF Go.Proofs.Tryd.prog n_model_within_1 F_model_within_1 = true := by kernel_rfl
theorem ok_slices_IndexFunc_sint_int : mF Go.Proofs.Tryd.prog n_slices_IndexFunc_sint_int F_slices_IndexFunc_sint_int = true := by kernel_rfl
def tbl : List (Nat × F) := [(n_law08_ModelTells, F_law08_ModelTells), (n_law08_ModelLess, F_law08_ModelLess), (n_law08_ModelNodes, F_law08_ModelNodes), (n_law08_awake, F_law08_awake), (n_law08_Large, F_law08_Large), (n_law08_cons, F_law08_cons), (n_model_Check, F_model_Check), (n_ref08_Check, F_ref08_Check), (n_model_Name, F_model_Name), (n_ref08_Name, F_ref08_Name), (n_model_Right, F_model_Right), (n_ref08_Right, F_ref08_Right), (n_ref08_Decls, F_ref08_Decls), (n_model_Vars, F_model_Vars), (n_ref08_Vars, F_ref08_Vars), (n_ref02_Same, F_ref02_Same), (n_model_Ends, F_model_Ends), (n_ref08_Ends, F_ref08_Ends), (n_model_Same, F_model_Same), (n_ref08_Same, F_ref08_Same), (n_model_Nodes, F_model_Nodes), (n_ref08_Nodes, F_ref08_Nodes), (n_ref03_Same, F_ref03_Same), (n_law08_small, F_law08_small), (n_model_big, F_model_big), (n_slices_ContainsFunc_sapi_Block_api_Block, F_slices_ContainsFunc_sapi_Block_api_Block), (n_model_Check_1, F_model_Check_1), (n_slices_ContainsFunc_sapi_Decl_api_Decl, F_slices_ContainsFunc_sapi_Decl_api_Decl), (n_model_Check_2, F_model_Check_2), (n_model_Check_3, F_model_Check_3), (n_model_Check_4, F_model_Check_4), (n_spans_Size, F_spans_Size), (n_model_wrong, F_model_wrong), (n_ref03_Size, F_ref03_Size), (n_strings_Contains, F_strings_Contains), (n_strings_Trim, F_strings_Trim), (n_model_looker_linear, F_model_looker_linear), (n_model_looker_product, F_model_looker_product), (n_model_looker_iff, F_model_looker_iff), (n_model_looker_element, F_model_looker_element), (n_model_looker_differ, F_model_looker_differ), (n_model_looker_table, F_model_looker_table), (n_ref08_all, F_ref08_all), (n_model_Same_1, F_model_Same_1), (n_slices_Equal_sapi_Span_api_Span, F_slices_Equal_sapi_Span_api_Span), (n_model_Same_2, F_model_Same_2), (n_slices_EqualFunc_sapi_Decl_sapi_Decl_api_Decl_api_Decl, F_slices_EqualFunc_sapi_Decl_sapi_Decl_api_Decl_api_Decl), (n_slices_EqualFunc_sapi_Con_sapi_Con_api_Con_api_Con, F_slices_EqualFunc_sapi_Con_sapi_Con_api_Con_api_Con), (n_model_alike, F_model_alike), (n_slices_EqualFunc_sapi_Block_sapi_Block_api_Block_api_Block, F_slices_EqualFunc_sapi_Block_sapi_Block_api_Block_api_Block), (n_ref08_Alike, F_ref08_Alike), (n_slices_Contains_sint_int, F_slices_Contains_sint_int), (n_slices_Equal_sint_int, F_slices_Equal_sint_int), (n_model_big_1, F_model_big_1), (n_slices_IndexFunc_sapi_Block_api_Block, F_slices_IndexFunc_sapi_Block_api_Block), (n_slices_IndexFunc_sapi_Decl_api_Decl, F_slices_IndexFunc_sapi_Decl_api_Decl), (n_spans_Right, F_spans_Right), (n_slices_ContainsFunc_sapi_Con_api_Con, F_slices_ContainsFunc_sapi_Con_api_Con), (n_model_wrong_1, F_model_wrong_1), (n_model_wrong_2, F_model_wrong_2), (n_ref03_Right, F_ref03_Right), (n_strings_Index, F_strings_Index), (n_strings_trimLeftByte, F_strings_trimLeftByte), (n_strings_trimRightByte, F_strings_trimRightByte), (n_strings_makeASCIISet, F_strings_makeASCIISet), (n_strings_trimLeftASCII, F_strings_trimLeftASCII), (n_strings_trimRightASCII, F_strings_trimRightASCII), (n_strings_trimLeftUnicode, F_strings_trimLeftUnicode), (n_strings_trimRightUnicode, F_strings_trimRightUnicode), (n_model_looker_variables, F_model_looker_variables), (n_model_looker_sum, F_model_looker_sum), (n_model_looker_bare, F_model_looker_bare), (n_slices_Index_sint_int, F_slices_Index_sint_int), (n_slices_IndexFunc_sapi_Con_api_Con, F_slices_IndexFunc_sapi_Con_api_Con), (n_strings_asciiSet_contains, F_strings_asciiSet_contains), (n_unicode_utf8_DecodeRuneInString, F_unicode_utf8_DecodeRuneInString), (n_strings_ContainsRune, F_strings_ContainsRune), (n_unicode_utf8_DecodeLastRuneInString, F_unicode_utf8_DecodeLastRuneInString), (n_model_within, F_model_within), (n_unicode_utf8_RuneStart, F_unicode_utf8_RuneStart), (n_slices_ContainsFunc_sint_int, F_slices_ContainsFunc_sint_int), (n_model_within_1, F_model_within_1), (n_slices_IndexFunc_sint_int, F_slices_IndexFunc_sint_int)]
def T (n : Nat) : Option F := (tbl.find? fun p => p.1 == n).map (·.2)
theorem T_law08_ModelTells : T n_law08_ModelTells = some F_law08_ModelTells := rfl
theorem T_law08_ModelLess : T n_law08_ModelLess = some F_law08_ModelLess := rfl
theorem T_law08_ModelNodes : T n_law08_ModelNodes = some F_law08_ModelNodes := rfl
theorem T_law08_awake : T n_law08_awake = some F_law08_awake := rfl
theorem T_law08_Large : T n_law08_Large = some F_law08_Large := rfl
theorem T_law08_cons : T n_law08_cons = some F_law08_cons := rfl
theorem T_model_Check : T n_model_Check = some F_model_Check := rfl
theorem T_ref08_Check : T n_ref08_Check = some F_ref08_Check := rfl
theorem T_model_Name : T n_model_Name = some F_model_Name := rfl
theorem T_ref08_Name : T n_ref08_Name = some F_ref08_Name := rfl
theorem T_model_Right : T n_model_Right = some F_model_Right := rfl
theorem T_ref08_Right : T n_ref08_Right = some F_ref08_Right := rfl
theorem T_ref08_Decls : T n_ref08_Decls = some F_ref08_Decls := rfl
theorem T_model_Vars : T n_model_Vars = some F_model_Vars := rfl
theorem T_ref08_Vars : T n_ref08_Vars = some F_ref08_Vars := rfl
theorem T_ref02_Same : T n_ref02_Same = some F_ref02_Same := rfl
theorem T_model_Ends : T n_model_Ends = some F_model_Ends := rfl
theorem T_ref08_Ends : T n_ref08_Ends = some F_ref08_Ends := rfl
theorem T_model_Same : T n_model_Same = some F_model_Same := rfl
theorem T_ref08_Same : T n_ref08_Same = some F_ref08_Same := rfl
theorem T_model_Nodes : T n_model_Nodes = some F_model_Nodes := rfl
theorem T_ref08_Nodes : T n_ref08_Nodes = some F_ref08_Nodes := rfl
theorem T_ref03_Same : T n_ref03_Same = some F_ref03_Same := rfl
theorem T_law08_small : T n_law08_small = some F_law08_small := rfl
theorem T_model_big : T n_model_big = some F_model_big := rfl
theorem T_slices_ContainsFunc_sapi_Block_api_Block : T n_slices_ContainsFunc_sapi_Block_api_Block = some F_slices_ContainsFunc_sapi_Block_api_Block := rfl
theorem T_model_Check_1 : T n_model_Check_1 = some F_model_Check_1 := rfl
theorem T_slices_ContainsFunc_sapi_Decl_api_Decl : T n_slices_ContainsFunc_sapi_Decl_api_Decl = some F_slices_ContainsFunc_sapi_Decl_api_Decl := rfl
theorem T_model_Check_2 : T n_model_Check_2 = some F_model_Check_2 := rfl
theorem T_model_Check_3 : T n_model_Check_3 = some F_model_Check_3 := rfl
theorem T_model_Check_4 : T n_model_Check_4 = some F_model_Check_4 := rfl
theorem T_spans_Size : T n_spans_Size = some F_spans_Size := rfl
theorem T_model_wrong : T n_model_wrong = some F_model_wrong := rfl
theorem T_ref03_Size : T n_ref03_Size = some F_ref03_Size := rfl
theorem T_strings_Contains : T n_strings_Contains = some F_strings_Contains := rfl
theorem T_strings_Trim : T n_strings_Trim = some F_strings_Trim := rfl
theorem T_model_looker_linear : T n_model_looker_linear = some F_model_looker_linear := rfl
theorem T_model_looker_product : T n_model_looker_product = some F_model_looker_product := rfl
theorem T_model_looker_iff : T n_model_looker_iff = some F_model_looker_iff := rfl
theorem T_model_looker_element : T n_model_looker_element = some F_model_looker_element := rfl
theorem T_model_looker_differ : T n_model_looker_differ = some F_model_looker_differ := rfl
theorem T_model_looker_table : T n_model_looker_table = some F_model_looker_table := rfl
theorem T_ref08_all : T n_ref08_all = some F_ref08_all := rfl
theorem T_model_Same_1 : T n_model_Same_1 = some F_model_Same_1 := rfl
theorem T_slices_Equal_sapi_Span_api_Span : T n_slices_Equal_sapi_Span_api_Span = some F_slices_Equal_sapi_Span_api_Span := rfl
theorem T_model_Same_2 : T n_model_Same_2 = some F_model_Same_2 := rfl
theorem T_slices_EqualFunc_sapi_Decl_sapi_Decl_api_Decl_api_Decl : T n_slices_EqualFunc_sapi_Decl_sapi_Decl_api_Decl_api_Decl = some F_slices_EqualFunc_sapi_Decl_sapi_Decl_api_Decl_api_Decl := rfl
theorem T_slices_EqualFunc_sapi_Con_sapi_Con_api_Con_api_Con : T n_slices_EqualFunc_sapi_Con_sapi_Con_api_Con_api_Con = some F_slices_EqualFunc_sapi_Con_sapi_Con_api_Con_api_Con := rfl
theorem T_model_alike : T n_model_alike = some F_model_alike := rfl
theorem T_slices_EqualFunc_sapi_Block_sapi_Block_api_Block_api_Block : T n_slices_EqualFunc_sapi_Block_sapi_Block_api_Block_api_Block = some F_slices_EqualFunc_sapi_Block_sapi_Block_api_Block_api_Block := rfl
theorem T_ref08_Alike : T n_ref08_Alike = some F_ref08_Alike := rfl
theorem T_slices_Contains_sint_int : T n_slices_Contains_sint_int = some F_slices_Contains_sint_int := rfl
theorem T_slices_Equal_sint_int : T n_slices_Equal_sint_int = some F_slices_Equal_sint_int := rfl
theorem T_model_big_1 : T n_model_big_1 = some F_model_big_1 := rfl
theorem T_slices_IndexFunc_sapi_Block_api_Block : T n_slices_IndexFunc_sapi_Block_api_Block = some F_slices_IndexFunc_sapi_Block_api_Block := rfl
theorem T_slices_IndexFunc_sapi_Decl_api_Decl : T n_slices_IndexFunc_sapi_Decl_api_Decl = some F_slices_IndexFunc_sapi_Decl_api_Decl := rfl
theorem T_spans_Right : T n_spans_Right = some F_spans_Right := rfl
theorem T_slices_ContainsFunc_sapi_Con_api_Con : T n_slices_ContainsFunc_sapi_Con_api_Con = some F_slices_ContainsFunc_sapi_Con_api_Con := rfl
theorem T_model_wrong_1 : T n_model_wrong_1 = some F_model_wrong_1 := rfl
theorem T_model_wrong_2 : T n_model_wrong_2 = some F_model_wrong_2 := rfl
theorem T_ref03_Right : T n_ref03_Right = some F_ref03_Right := rfl
theorem T_strings_Index : T n_strings_Index = some F_strings_Index := rfl
theorem T_strings_trimLeftByte : T n_strings_trimLeftByte = some F_strings_trimLeftByte := rfl
theorem T_strings_trimRightByte : T n_strings_trimRightByte = some F_strings_trimRightByte := rfl
theorem T_strings_makeASCIISet : T n_strings_makeASCIISet = some F_strings_makeASCIISet := rfl
theorem T_strings_trimLeftASCII : T n_strings_trimLeftASCII = some F_strings_trimLeftASCII := rfl
theorem T_strings_trimRightASCII : T n_strings_trimRightASCII = some F_strings_trimRightASCII := rfl
theorem T_strings_trimLeftUnicode : T n_strings_trimLeftUnicode = some F_strings_trimLeftUnicode := rfl
theorem T_strings_trimRightUnicode : T n_strings_trimRightUnicode = some F_strings_trimRightUnicode := rfl
theorem T_model_looker_variables : T n_model_looker_variables = some F_model_looker_variables := rfl
theorem T_model_looker_sum : T n_model_looker_sum = some F_model_looker_sum := rfl
theorem T_model_looker_bare : T n_model_looker_bare = some F_model_looker_bare := rfl
theorem T_slices_Index_sint_int : T n_slices_Index_sint_int = some F_slices_Index_sint_int := rfl
theorem T_slices_IndexFunc_sapi_Con_api_Con : T n_slices_IndexFunc_sapi_Con_api_Con = some F_slices_IndexFunc_sapi_Con_api_Con := rfl
theorem T_strings_asciiSet_contains : T n_strings_asciiSet_contains = some F_strings_asciiSet_contains := rfl
theorem T_unicode_utf8_DecodeRuneInString : T n_unicode_utf8_DecodeRuneInString = some F_unicode_utf8_DecodeRuneInString := rfl
theorem T_strings_ContainsRune : T n_strings_ContainsRune = some F_strings_ContainsRune := rfl
theorem T_unicode_utf8_DecodeLastRuneInString : T n_unicode_utf8_DecodeLastRuneInString = some F_unicode_utf8_DecodeLastRuneInString := rfl
theorem T_model_within : T n_model_within = some F_model_within := rfl
theorem T_unicode_utf8_RuneStart : T n_unicode_utf8_RuneStart = some F_unicode_utf8_RuneStart := rfl
theorem T_slices_ContainsFunc_sint_int : T n_slices_ContainsFunc_sint_int = some F_slices_ContainsFunc_sint_int := rfl
theorem T_model_within_1 : T n_model_within_1 = some F_model_within_1 := rfl
theorem T_slices_IndexFunc_sint_int : T n_slices_IndexFunc_sint_int = some F_slices_IndexFunc_sint_int := rfl
theorem T_ok : ∀ f F, T f = some F → mF Go.Proofs.Tryd.prog f F = true := by
  intro f F h
  unfold T at h
  obtain ⟨p, hp, rfl⟩ := Option.map_eq_some_iff.1 h
  have h1 := List.mem_of_find?_eq_some hp
  have h2 : p.1 = f := by simpa using List.find?_some hp
  subst h2
  clear h hp
  simp only [tbl, List.mem_cons, List.not_mem_nil, or_false] at h1
  rcases h1 with rfl | rfl | rfl | rfl | rfl | rfl | rfl | rfl | rfl | rfl | rfl | rfl | rfl | rfl | rfl | rfl | rfl | rfl | rfl | rfl | rfl | rfl | rfl | rfl | rfl | rfl | rfl | rfl | rfl | rfl | rfl | rfl | rfl | rfl | rfl | rfl | rfl | rfl | rfl | rfl | rfl | rfl | rfl | rfl | rfl | rfl | rfl | rfl | rfl | rfl | rfl | rfl | rfl | rfl | rfl | rfl | rfl | rfl | rfl | rfl | rfl | rfl | rfl | rfl | rfl | rfl | rfl | rfl | rfl | rfl | rfl | rfl | rfl | rfl | rfl | rfl | rfl | rfl | rfl | rfl | rfl | rfl | rfl
  · exact ok_law08_ModelTells
  · exact ok_law08_ModelLess
  · exact ok_law08_ModelNodes
  · exact ok_law08_awake
  · exact ok_law08_Large
  · exact ok_law08_cons
  · exact ok_model_Check
  · exact ok_ref08_Check
  · exact ok_model_Name
  · exact ok_ref08_Name
  · exact ok_model_Right
  · exact ok_ref08_Right
  · exact ok_ref08_Decls
  · exact ok_model_Vars
  · exact ok_ref08_Vars
  · exact ok_ref02_Same
  · exact ok_model_Ends
  · exact ok_ref08_Ends
  · exact ok_model_Same
  · exact ok_ref08_Same
  · exact ok_model_Nodes
  · exact ok_ref08_Nodes
  · exact ok_ref03_Same
  · exact ok_law08_small
  · exact ok_model_big
  · exact ok_slices_ContainsFunc_sapi_Block_api_Block
  · exact ok_model_Check_1
  · exact ok_slices_ContainsFunc_sapi_Decl_api_Decl
  · exact ok_model_Check_2
  · exact ok_model_Check_3
  · exact ok_model_Check_4
  · exact ok_spans_Size
  · exact ok_model_wrong
  · exact ok_ref03_Size
  · exact ok_strings_Contains
  · exact ok_strings_Trim
  · exact ok_model_looker_linear
  · exact ok_model_looker_product
  · exact ok_model_looker_iff
  · exact ok_model_looker_element
  · exact ok_model_looker_differ
  · exact ok_model_looker_table
  · exact ok_ref08_all
  · exact ok_model_Same_1
  · exact ok_slices_Equal_sapi_Span_api_Span
  · exact ok_model_Same_2
  · exact ok_slices_EqualFunc_sapi_Decl_sapi_Decl_api_Decl_api_Decl
  · exact ok_slices_EqualFunc_sapi_Con_sapi_Con_api_Con_api_Con
  · exact ok_model_alike
  · exact ok_slices_EqualFunc_sapi_Block_sapi_Block_api_Block_api_Block
  · exact ok_ref08_Alike
  · exact ok_slices_Contains_sint_int
  · exact ok_slices_Equal_sint_int
  · exact ok_model_big_1
  · exact ok_slices_IndexFunc_sapi_Block_api_Block
  · exact ok_slices_IndexFunc_sapi_Decl_api_Decl
  · exact ok_spans_Right
  · exact ok_slices_ContainsFunc_sapi_Con_api_Con
  · exact ok_model_wrong_1
  · exact ok_model_wrong_2
  · exact ok_ref03_Right
  · exact ok_strings_Index
  · exact ok_strings_trimLeftByte
  · exact ok_strings_trimRightByte
  · exact ok_strings_makeASCIISet
  · exact ok_strings_trimLeftASCII
  · exact ok_strings_trimRightASCII
  · exact ok_strings_trimLeftUnicode
  · exact ok_strings_trimRightUnicode
  · exact ok_model_looker_variables
  · exact ok_model_looker_sum
  · exact ok_model_looker_bare
  · exact ok_slices_Index_sint_int
  · exact ok_slices_IndexFunc_sapi_Con_api_Con
  · exact ok_strings_asciiSet_contains
  · exact ok_unicode_utf8_DecodeRuneInString
  · exact ok_strings_ContainsRune
  · exact ok_unicode_utf8_DecodeLastRuneInString
  · exact ok_model_within
  · exact ok_unicode_utf8_RuneStart
  · exact ok_slices_ContainsFunc_sint_int
  · exact ok_model_within_1
  · exact ok_slices_IndexFunc_sint_int
end Go.RR.M
