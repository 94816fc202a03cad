/- The code of the functions, by name, for the second reading; that it is theirs. -/
import Derived.Test.YtikihijfhgbffaaGreatDoorProg
import Derived.KernelRfl
import Derived.Test.YtikihijfhgbffaaGreatDoorR4
set_option linter.unusedVariables false
set_option linter.unusedSimpArgs false
set_option linter.unusedVariables false
namespace Go.RR.M
open Go Go.RR
set_option maxRecDepth 100000
def n_law20_PlayTells : Nat := 3
def n_law20_PlayShows : Nat := 4
def n_law20_PlayTurned : Nat := 5
def n_law20_PlaySame : Nat := 6
def n_law20_awake : Nat := 7
def n_law20_Large : Nat := 8
def n_play_Over : Nat := 9
def n_ref20_Row : Nat := 10
def n_ref20_Over : Nat := 11
def n_play_Wins : Nat := 12
def n_ref20_Wins : Nat := 13
def n_law19_Own : Nat := 14
def n_play_Value : Nat := 15
def n_ref20_Value : Nat := 16
def n_ref08_Check : Nat := 17
def n_tree_Share : Nat := 18
def n_law20_two : Nat := 19
def n_law08_Large : Nat := 20
def n_ref20_Plays : Nat := 21
def n_model_Check : Nat := 22
def n_play_lay : Nat := 23
def n_spans_Has : Nat := 24
def n_play_table_over : Nat := 25
def n_ref08_Vars : Nat := 26
def n_ref03_In : Nat := 27
def n_ref08_Ends : Nat := 28
def n_ref11_All : Nat := 29
def n_tree_May : Nat := 30
def n_play_table_wins : Nat := 31
def n_ref19_May : Nat := 32
def n_ref20_wins : Nat := 33
def n_play_table_value : Nat := 34
def n_ref20_value : Nat := 35
def n_ref08_Right : Nat := 36
def n_ref08_Name : Nat := 37
def n_ref03_Size : Nat := 38
def n_tree_sharer_walk : Nat := 39
def n_law08_cons : Nat := 40
def n_model_big : Nat := 41
def n_slices_ContainsFunc_sapi_Block_api_Block : Nat := 42
def n_model_Check_1 : Nat := 43
def n_model_Vars : Nat := 44
def n_slices_ContainsFunc_sapi_Decl_api_Decl : Nat := 45
def n_model_Check_2 : Nat := 46
def n_model_Name : Nat := 47
def n_model_Check_3 : Nat := 48
def n_model_Check_4 : Nat := 49
def n_spans_Size : Nat := 50
def n_model_wrong : Nat := 51
def n_model_Ends : Nat := 52
def n_spans_Place : Nat := 53
def n_slices_Index_sint_int : Nat := 54
def n_ground_All : Nat := 55
def n_ref11_Right : Nat := 56
def n_ref11_Holds : Nat := 57
def n_tree_fits : Nat := 58
def n_slices_ContainsFunc_sint_int : Nat := 59
def n_tree_May_1 : Nat := 60
def n_play_table_yes : Nat := 61
def n_play_table_next : Nat := 62
def n_ref19_Fits : Nat := 63
def n_ref20_Nums : Nat := 64
def n_ref20_Yes : Nat := 65
def n_ref20_with : Nat := 66
def n_ref08_all : Nat := 67
def n_ref03_Right : Nat := 68
def n_tree_sharer_put : Nat := 69
def n_model_big_1 : Nat := 70
def n_slices_IndexFunc_sapi_Block_api_Block : Nat := 71
def n_slices_Clone_sapi_Span_api_Span : Nat := 72
def n_slices_IndexFunc_sapi_Decl_api_Decl : Nat := 73
def n_strings_Contains : Nat := 74
def n_strings_Trim : Nat := 75
def n_spans_Right : Nat := 76
def n_slices_ContainsFunc_sapi_Con_api_Con : Nat := 77
def n_model_wrong_1 : Nat := 78
def n_model_Right : Nat := 79
def n_model_wrong_2 : Nat := 80
def n_ground_Right : Nat := 81
def n_ground_All_1 : Nat := 82
def n_ground_holds : Nat := 83
def n_ref11_sum : Nat := 84
def n_slices_IndexFunc_sint_int : Nat := 85
def n_play_table_yes_1 : Nat := 86
def n_play_table_next_1 : Nat := 87
def n_spans_At : Nat := 88
def n_slices_Clone_sint_int : Nat := 89
def n_ref03_Values : Nat := 90
def n_tree_text : Nat := 91
def n_strings_Index : Nat := 92
def n_strings_trimLeftByte : Nat := 93
def n_strings_trimRightByte : Nat := 94
def n_strings_makeASCIISet : Nat := 95
def n_strings_trimLeftASCII : Nat := 96
def n_strings_trimRightASCII : Nat := 97
def n_strings_trimLeftUnicode : Nat := 98
def n_strings_trimRightUnicode : Nat := 99
def n_slices_IndexFunc_sapi_Con_api_Con : Nat := 100
def n_model_looker_linear : Nat := 101
def n_model_looker_product : Nat := 102
def n_model_looker_iff : Nat := 103
def n_model_looker_element : Nat := 104
def n_model_looker_differ : Nat := 105
def n_model_looker_table : Nat := 106
def n_ground_Right_1 : Nat := 107
def n_ground_holds_1 : Nat := 108
def n_ground_compared : Nat := 109
def n_slices_Sort_sint_int : Nat := 110
def n_slices_Compact_sint_int : Nat := 111
def n_slices_Equal_sint_int : Nat := 112
def n_stringslite_Index : Nat := 116
def n_strings_asciiSet_contains : Nat := 117
def n_unicode_utf8_DecodeRuneInString : Nat := 118
def n_strings_ContainsRune : Nat := 119
def n_unicode_utf8_DecodeLastRuneInString : Nat := 120
def n_model_looker_variables : Nat := 121
def n_model_looker_sum : Nat := 122
def n_model_looker_bare : Nat := 123
def n_sums_Dot : Nat := 124
def n_sums_Holds : Nat := 125
def n_unicode_utf8_decodeRuneInStringSlow : Nat := 134
def n_strings_IndexRune : Nat := 135
def n_unicode_utf8_RuneStart : Nat := 136
def n_slices_Contains_sint_int : Nat := 137
def n_model_within : Nat := 138
def n_sums_Mul : Nat := 139
def n_sums_Add : Nat := 140
def n_model_within_1 : Nat := 158
def n_math_bits_Mul64 : Nat := 159
def n_sums_size : Nat := 160
def i_law20_PlayTells : IR := .seq (.rg [⟨some 4, none, .box (.t 0)⟩,
 ⟨some 8, none, .mov (.c (.bool false))⟩] (some [1, 2, 3, 4]))
 (.seq (.seq (.rg [⟨some 13, none, .call n_law20_awake []⟩,
 ⟨some 14, none, .un .not (.t 13)⟩] (some [1, 2, 3, 4, 14]))
 (.cond (.t 14) (.seq (.rg [⟨some 8, none, .mov (.c (.bool false))⟩] (some [8]))
 (.ret)) (.skip)))
 (.seq (.seq (.rg [⟨some 15, none, .ld true 2 (.t 4)⟩,
 ⟨some 16, none, .call n_law20_Large [(.t 15)]⟩,
 ⟨some 17, none, .mov (.t 16)⟩,
 ⟨some 18, (some (17, false)), .mov (.t 1)⟩,
 ⟨some 19, (some (17, false)), .len (.t 18)⟩,
 ⟨some 20, (some (17, false)), .bin .gtr (.t 19) (.c (.int .i64 40))⟩,
 ⟨some 21, none, .pick (.t 17) (.c (.bool true)) (.t 20)⟩,
 ⟨some 22, none, .mov (.t 21)⟩,
 ⟨some 23, (some (22, false)), .mov (.t 2)⟩,
 ⟨some 24, (some (22, false)), .len (.t 23)⟩,
 ⟨some 25, (some (22, false)), .bin .gtr (.t 24) (.c (.int .i64 200))⟩,
 ⟨some 26, none, .pick (.t 22) (.c (.bool true)) (.t 25)⟩] (some [1, 2, 3, 4, 26]))
 (.cond (.t 26) (.seq (.rg [⟨some 8, none, .mov (.c (.bool true))⟩] (some [8]))
 (.ret)) (.skip)))
 (.seq (.rg [⟨some 28, none, .ld true 2 (.t 4)⟩,
 ⟨some 29, none, .mov (.t 1)⟩,
 ⟨some 30, none, .call n_play_Over [(.t 28), (.t 29)]⟩,
 ⟨some 27, none, .mov (.t 30)⟩,
 ⟨some 31, none, .ext (.t 27) 0⟩,
 ⟨some 32, none, .ext (.t 27) 1⟩,
 ⟨some 9, none, .mov (.t 31)⟩,
 ⟨some 10, none, .mov (.t 32)⟩] (some [1, 2, 3, 4, 9, 10]))
 (.seq (.rg [⟨some 11, none, .mov (.c (.bool false))⟩,
 ⟨some 12, none, .mov (.c (.bool false))⟩] (some [1, 2, 3, 4, 9, 10, 11, 12]))
 (.seq (.seq (.rg [⟨some 33, none, .ld true 2 (.t 4)⟩,
 ⟨some 34, none, .mov (.t 1)⟩,
 ⟨some 35, none, .call n_ref20_Row [(.t 33), (.t 34)]⟩] (some [1, 2, 3, 4, 9, 10, 11, 12, 35]))
 (.cond (.t 35) (.rg [⟨some 37, none, .ld true 2 (.t 4)⟩,
 ⟨some 38, none, .mov (.t 1)⟩,
 ⟨some 39, none, .call n_ref20_Over [(.t 37), (.t 38)]⟩,
 ⟨some 36, none, .mov (.t 39)⟩,
 ⟨some 40, none, .ext (.t 36) 0⟩,
 ⟨some 41, none, .ext (.t 36) 1⟩,
 ⟨some 11, none, .mov (.t 40)⟩,
 ⟨some 12, none, .mov (.t 41)⟩] (some [2, 3, 4, 9, 10, 11, 12])) (.skip)))
 (.seq (.dq [(⟨some 42, none, .mov (.t 9)⟩, []),
 (⟨some 43, none, .mov (.t 11)⟩, []),
 (⟨some 44, none, .eq false .bool (.t 42) (.t 43)⟩, [0, 1]),
 (⟨some 45, none, .mov (.t 44)⟩, [0, 1, 2]),
 (⟨some 46, (some (45, true)), .mov (.t 10)⟩, [0, 1, 2, 3]),
 (⟨some 47, (some (45, true)), .mov (.t 12)⟩, [0, 1, 2, 3]),
 (⟨some 48, (some (45, true)), .eq false .bool (.t 46) (.t 47)⟩, [0, 1, 2, 3, 4, 5]),
 (⟨some 49, none, .pick (.t 45) (.t 48) (.c (.bool false))⟩, [0, 1, 2, 3, 4, 5, 6]),
 (⟨some 50, none, .mov (.t 49)⟩, [0, 1, 2, 3, 4, 5, 6, 7]),
 (⟨some 51, (some (50, true)), .ld true 2 (.t 4)⟩, [0, 1, 2, 3, 4, 5, 6, 7, 8]),
 (⟨some 52, (some (50, true)), .mov (.t 2)⟩, [0, 1, 2, 3, 4, 5, 6, 7, 8]),
 (⟨some 53, (some (50, true)), .mov (.t 3)⟩, [0, 1, 2, 3, 4, 5, 6, 7, 8]),
 (⟨some 54, (some (50, true)), .call n_play_Wins [(.t 51), (.t 52), (.t 53)]⟩, [0, 1, 2, 3, 4, 5, 6, 7, 8, 9, 10, 11]),
 (⟨some 55, (some (50, true)), .ld true 2 (.t 4)⟩, [0, 1, 2, 3, 4, 5, 6, 7, 8]),
 (⟨some 56, (some (50, true)), .mov (.t 2)⟩, [0, 1, 2, 3, 4, 5, 6, 7, 8]),
 (⟨some 57, (some (50, true)), .call n_law19_Own [(.t 56)]⟩, [0, 1, 2, 3, 4, 5, 6, 7, 8, 9, 10, 11, 12, 14]),
 (⟨some 58, (some (50, true)), .mov (.t 3)⟩, [0, 1, 2, 3, 4, 5, 6, 7, 8]),
 (⟨some 59, (some (50, true)), .call n_ref20_Wins [(.t 55), (.t 57), (.t 58)]⟩, [0, 1, 2, 3, 4, 5, 6, 7, 8, 9, 10, 11, 12, 13, 14, 15, 16]),
 (⟨some 60, (some (50, true)), .eq false .bool (.t 54) (.t 59)⟩, [0, 1, 2, 3, 4, 5, 6, 7, 8, 9, 10, 11, 12, 13, 14, 15, 16, 17]),
 (⟨some 61, none, .pick (.t 50) (.t 60) (.c (.bool false))⟩, [0, 1, 2, 3, 4, 5, 6, 7, 8, 9, 10, 11, 12, 13, 14, 15, 16, 17, 18]),
 (⟨some 62, none, .mov (.t 61)⟩, [0, 1, 2, 3, 4, 5, 6, 7, 8, 9, 10, 11, 12, 13, 14, 15, 16, 17, 18, 19]),
 (⟨some 63, (some (62, true)), .ld true 2 (.t 4)⟩, [0, 1, 2, 3, 4, 5, 6, 7, 8, 9, 10, 11, 12, 13, 14, 15, 16, 17, 18, 19, 20]),
 (⟨some 64, (some (62, true)), .call n_play_Value [(.t 63)]⟩, [0, 1, 2, 3, 4, 5, 6, 7, 8, 9, 10, 11, 12, 13, 14, 15, 16, 17, 18, 19, 20, 21]),
 (⟨some 65, (some (62, true)), .ld true 2 (.t 4)⟩, [0, 1, 2, 3, 4, 5, 6, 7, 8, 9, 10, 11, 12, 13, 14, 15, 16, 17, 18, 19, 20]),
 (⟨some 66, (some (62, true)), .call n_ref20_Value [(.t 65)]⟩, [0, 1, 2, 3, 4, 5, 6, 7, 8, 9, 10, 11, 12, 13, 14, 15, 16, 17, 18, 19, 20, 21, 22, 23]),
 (⟨some 67, (some (62, true)), .eq false .bool (.t 64) (.t 66)⟩, [0, 1, 2, 3, 4, 5, 6, 7, 8, 9, 10, 11, 12, 13, 14, 15, 16, 17, 18, 19, 20, 21, 22, 23, 24]),
 (⟨some 68, none, .pick (.t 62) (.t 67) (.c (.bool false))⟩, [0, 1, 2, 3, 4, 5, 6, 7, 8, 9, 10, 11, 12, 13, 14, 15, 16, 17, 18, 19, 20, 21, 22, 23, 24, 25]),
 (⟨some 8, none, .mov (.t 68)⟩, [0, 1, 2, 3, 4, 5, 6, 7, 8, 9, 10, 11, 12, 13, 14, 15, 16, 17, 18, 19, 20, 21, 22, 23, 24, 25, 26])] (some [8]))
 (.ret)))))))
def F_law20_PlayTells : F := ⟨i_law20_PlayTells, [(8, none)], false⟩
def i_law20_PlayShows : IR := .seq (.rg [⟨some 2, none, .box (.t 0)⟩,
 ⟨some 4, none, .mov (.c (.bool false))⟩] (some [1, 2]))
 (.seq (.seq (.rg [⟨some 7, none, .call n_law20_awake []⟩,
 ⟨some 8, none, .un .not (.t 7)⟩] (some [1, 2, 8]))
 (.cond (.t 8) (.seq (.rg [⟨some 4, none, .mov (.c (.bool false))⟩] (some [4]))
 (.ret)) (.skip)))
 (.seq (.seq (.rg [⟨some 9, none, .ld true 2 (.t 2)⟩,
 ⟨some 10, none, .call n_law20_Large [(.t 9)]⟩,
 ⟨some 11, none, .mov (.t 10)⟩,
 ⟨some 12, (some (11, false)), .mov (.t 1)⟩,
 ⟨some 13, (some (11, false)), .len (.t 12)⟩,
 ⟨some 14, (some (11, false)), .bin .gtr (.t 13) (.c (.int .i64 200))⟩,
 ⟨some 15, none, .pick (.t 11) (.c (.bool true)) (.t 14)⟩] (some [1, 2, 15]))
 (.cond (.t 15) (.seq (.rg [⟨some 4, none, .mov (.c (.bool true))⟩] (some [4]))
 (.ret)) (.skip)))
 (.seq (.dq [(⟨some 16, none, .ld true 2 (.t 2)⟩, []),
 (⟨some 17, none, .mov (.t 1)⟩, []),
 (⟨some 18, none, .call n_play_Wins [(.t 16), (.t 17), (.c (.bool true))]⟩, [0, 1]),
 (⟨some 19, none, .ld true 2 (.t 2)⟩, []),
 (⟨some 20, none, .mov (.t 1)⟩, []),
 (⟨some 21, none, .call n_play_Wins [(.t 19), (.t 20), (.c (.bool false))]⟩, [0, 1, 2, 3, 4]),
 (⟨some 5, none, .mov (.t 18)⟩, [0, 1, 2, 3, 4, 5]),
 (⟨some 6, none, .mov (.t 21)⟩, [0, 1, 2, 3, 4, 5, 6])] (some [2, 5, 6]))
 (.seq (.seq (.rg [⟨some 22, none, .mov (.t 5)⟩,
 ⟨some 23, none, .mov (.t 22)⟩,
 ⟨some 24, (some (23, true)), .mov (.t 6)⟩,
 ⟨some 25, none, .pick (.t 23) (.t 24) (.c (.bool false))⟩,
 ⟨some 26, none, .mov (.t 25)⟩,
 ⟨some 27, (some (26, false)), .mov (.t 5)⟩,
 ⟨some 28, (some (26, false)), .mov (.t 27)⟩,
 ⟨some 29, (some (28, false)), .mov (.t 6)⟩,
 ⟨some 30, (some (26, false)), .pick (.t 28) (.c (.bool true)) (.t 29)⟩,
 ⟨some 31, (some (26, false)), .mov (.t 30)⟩,
 ⟨some 32, (some (31, true)), .ld true 2 (.t 2)⟩,
 ⟨some 33, (some (31, true)), .call n_ref08_Check [(.t 32)]⟩,
 ⟨some 34, (some (31, true)), .bin .neq (.t 33) (.c (.int .i64 0))⟩,
 ⟨some 35, (some (26, false)), .pick (.t 31) (.t 34) (.c (.bool false))⟩,
 ⟨some 36, none, .pick (.t 26) (.c (.bool true)) (.t 35)⟩] (some [2, 5, 6, 36]))
 (.cond (.t 36) (.seq (.rg [⟨some 4, none, .mov (.c (.bool false))⟩] (some [4]))
 (.ret)) (.skip)))
 (.seq (.rg [⟨some 37, none, .mov (.t 5)⟩,
 ⟨some 38, none, .un .not (.t 37)⟩,
 ⟨some 39, none, .mov (.t 38)⟩,
 ⟨some 40, (some (39, true)), .mov (.t 6)⟩,
 ⟨some 41, (some (39, true)), .un .not (.t 40)⟩,
 ⟨some 42, none, .pick (.t 39) (.t 41) (.c (.bool false))⟩,
 ⟨some 43, none, .mov (.t 42)⟩,
 ⟨some 44, (some (43, false)), .ld true 2 (.t 2)⟩,
 ⟨some 45, (some (43, false)), .call n_ref20_Value [(.t 44)]⟩,
 ⟨some 46, (some (43, false)), .mov (.t 5)⟩,
 ⟨some 47, (some (43, false)), .eq false .bool (.t 45) (.t 46)⟩,
 ⟨some 48, none, .pick (.t 43) (.c (.bool true)) (.t 47)⟩,
 ⟨some 4, none, .mov (.t 48)⟩] (some [4]))
 (.ret))))))
def F_law20_PlayShows : F := ⟨i_law20_PlayShows, [(4, none)], false⟩
def b_law20_PlayTurned_0 : IR := .seq (.rg [⟨some 44, none, .bin .lss (.t 43) (.t 42)⟩] (some [1, 2, 3, 7, 41, 42, 43, 44]))
 (.seq (.cond (.t 44) (.skip) (.ext 0))
 (.seq (.blk 1 (.seq (.rg [⟨some 45, none, .iad 3 (.t 41) (.t 43)⟩,
 ⟨some 46, none, .ld true 3 (.t 45)⟩,
 ⟨some 9, none, .new (.agg [.bool false, .nsl 2, .nsl 6])⟩,
 ⟨none, none, .st 3 (.t 9) (.t 46)⟩] (some [1, 2, 3, 7, 9, 41, 42, 43]))
 (.rg [⟨some 47, none, .fad 0 (.t 7)⟩,
 ⟨some 48, none, .ld false 1 (.t 47)⟩,
 ⟨some 49, none, .fad 0 (.t 9)⟩,
 ⟨some 50, none, .ld false 1 (.t 49)⟩,
 ⟨some 51, none, .un .not (.t 50)⟩,
 ⟨some 52, none, .fad 1 (.t 9)⟩,
 ⟨some 53, none, .ld false 1 (.t 52)⟩,
 ⟨some 54, none, .fad 2 (.t 9)⟩,
 ⟨some 55, none, .ld false 1 (.t 54)⟩,
 ⟨some 56, none, .bld [.bool false, .nsl 2, .nsl 6] [(0, 1, (.t 51)), (1, 1, (.t 53)), (2, 1, (.t 55))]⟩,
 ⟨some 57, none, .bsf (.agg [.bool false, .nsl 2, .nsl 6]) 1 [(0, (.t 56))]⟩,
 ⟨some 58, none, .app 3 56 (.t 48) (.t 57)⟩,
 ⟨some 59, none, .fad 0 (.t 7)⟩,
 ⟨none, none, .st 1 (.t 59) (.t 58)⟩] (some [1, 2, 3, 7, 41, 42, 43]))))
 (.rg [⟨some 60, none, .bin .add (.t 43) (.c (.int .i64 1))⟩,
 ⟨some 43, none, .mov (.t 60)⟩] (some [1, 2, 3, 7, 41, 42, 43]))))
def i_law20_PlayTurned_l0 : IR := .loop b_law20_PlayTurned_0
def i_law20_PlayTurned : IR := .seq (.rg [⟨some 3, none, .box (.t 0)⟩,
 ⟨some 6, none, .mov (.c (.bool false))⟩] (some [1, 2, 3]))
 (.seq (.seq (.rg [⟨some 11, none, .call n_law20_awake []⟩,
 ⟨some 12, none, .un .not (.t 11)⟩] (some [1, 2, 3, 12]))
 (.cond (.t 12) (.seq (.rg [⟨some 6, none, .mov (.c (.bool false))⟩] (some [6]))
 (.ret)) (.skip)))
 (.seq (.seq (.rg [⟨some 13, none, .ld true 2 (.t 3)⟩,
 ⟨some 14, none, .call n_law20_Large [(.t 13)]⟩,
 ⟨some 15, none, .mov (.t 14)⟩,
 ⟨some 16, (some (15, false)), .mov (.t 1)⟩,
 ⟨some 17, (some (15, false)), .len (.t 16)⟩,
 ⟨some 18, (some (15, false)), .bin .gtr (.t 17) (.c (.int .i64 200))⟩,
 ⟨some 19, none, .pick (.t 15) (.c (.bool true)) (.t 18)⟩,
 ⟨some 20, none, .mov (.t 19)⟩,
 ⟨some 21, (some (20, false)), .ld true 2 (.t 3)⟩,
 ⟨some 22, (some (20, false)), .call n_ref08_Check [(.t 21)]⟩,
 ⟨some 23, (some (20, false)), .bin .neq (.t 22) (.c (.int .i64 0))⟩,
 ⟨some 24, none, .pick (.t 20) (.c (.bool true)) (.t 23)⟩,
 ⟨some 25, none, .mov (.t 24)⟩,
 ⟨some 26, (some (25, false)), .fad 1 (.t 3)⟩,
 ⟨some 27, (some (25, false)), .ld false 1 (.t 26)⟩,
 ⟨some 28, (some (25, false)), .len (.t 27)⟩,
 ⟨some 29, (some (25, false)), .bin .neq (.t 28) (.c (.int .i64 1))⟩,
 ⟨some 30, none, .pick (.t 25) (.c (.bool true)) (.t 29)⟩,
 ⟨some 31, none, .mov (.t 30)⟩,
 ⟨some 32, (some (31, false)), .fad 1 (.t 3)⟩,
 ⟨some 33, (some (31, false)), .ld false 1 (.t 32)⟩,
 ⟨some 34, (some (31, false)), .iad 6 (.t 33) (.c (.int .i64 0))⟩,
 ⟨some 35, (some (31, false)), .fad 0 (.t 34)⟩,
 ⟨some 36, (some (31, false)), .ld false 1 (.t 35)⟩,
 ⟨some 37, (some (31, false)), .bin .neq (.t 36) (.c (.int .i64 1))⟩,
 ⟨some 38, none, .pick (.t 31) (.c (.bool true)) (.t 37)⟩] (some [1, 2, 3, 38]))
 (.cond (.t 38) (.seq (.rg [⟨some 6, none, .mov (.c (.bool true))⟩] (some [6]))
 (.ret)) (.skip)))
 (.seq (.rg [⟨some 39, none, .bld [.nsl 3, .nsl 6] []⟩,
 ⟨some 7, none, .new (.agg [.nsl 3, .nsl 6])⟩,
 ⟨none, none, .st 2 (.t 7) (.t 39)⟩] (some [1, 2, 3, 7]))
 (.seq (.seq (.rg [⟨some 40, none, .fad 0 (.t 3)⟩,
 ⟨some 41, none, .ld false 1 (.t 40)⟩,
 ⟨some 42, none, .len (.t 41)⟩,
 ⟨some 43, none, .mov (.c (.int .i64 0))⟩] (some [1, 2, 3, 7, 41, 42, 43]))
 (.blk 0 (i_law20_PlayTurned_l0)))
 (.seq (.rg [⟨some 61, none, .fad 1 (.t 3)⟩,
 ⟨some 62, none, .ld false 1 (.t 61)⟩,
 ⟨some 63, none, .iad 6 (.t 62) (.c (.int .i64 0))⟩,
 ⟨some 64, none, .ld true 6 (.t 63)⟩,
 ⟨some 10, none, .new (.agg [.int .i64 0, .nsl 1, .nsl 1, .int .i64 0, .int .i64 0, .nsl 1])⟩,
 ⟨none, none, .st 6 (.t 10) (.t 64)⟩] (some [1, 2, 3, 7, 10]))
 (.seq (.rg [⟨some 65, none, .bld [.int .i64 0, .int .i64 0, .int .i64 0, .int .i64 0, .int .i64 0, .int .i64 0] [(0, 1, (.c (.int .i64 1))), (1, 1, (.c (.int .i64 0))), (2, 1, (.c (.int .i64 5))), (3, 1, (.c (.int .i64 4))), (4, 1, (.c (.int .i64 3))), (5, 1, (.c (.int .i64 2)))]⟩,
 ⟨some 66, none, .fad 3 (.t 10)⟩,
 ⟨some 67, none, .ld false 1 (.t 66)⟩,
 ⟨some 68, none, .op (.ixa 6 1 false) [(.t 65), (.t 67)]⟩,
 ⟨some 69, none, .fad 3 (.t 10)⟩,
 ⟨none, none, .st 1 (.t 69) (.t 68)⟩] (some [1, 2, 3, 7, 10]))
 (.seq (.rg [⟨some 70, none, .ld true 6 (.t 10)⟩,
 ⟨some 71, none, .bsl (.agg [.int .i64 0, .nsl 1, .nsl 1, .int .i64 0, .int .i64 0, .nsl 1]) 1 [(0, (.t 70))]⟩,
 ⟨some 72, none, .fad 1 (.t 7)⟩,
 ⟨none, none, .st 1 (.t 72) (.t 71)⟩] (some [1, 2, 3, 7]))
 (.seq (.dq [(⟨some 73, none, .ld true 2 (.t 7)⟩, []),
 (⟨some 74, none, .call n_play_Value [(.t 73)]⟩, [0]),
 (⟨some 75, none, .ld true 2 (.t 3)⟩, []),
 (⟨some 76, none, .call n_play_Value [(.t 75)]⟩, [0, 1, 2]),
 (⟨some 77, none, .eq true .bool (.t 74) (.t 76)⟩, [0, 1, 2, 3]),
 (⟨some 78, none, .mov (.t 77)⟩, [0, 1, 2, 3, 4]),
 (⟨some 79, (some (78, true)), .ld true 2 (.t 7)⟩, [0, 1, 2, 3, 4, 5]),
 (⟨some 80, (some (78, true)), .mov (.t 1)⟩, [0, 1, 2, 3, 4, 5]),
 (⟨some 81, (some (78, true)), .mov (.t 2)⟩, [0, 1, 2, 3, 4, 5]),
 (⟨some 82, (some (78, true)), .un .not (.t 81)⟩, [0, 1, 2, 3, 4, 5, 8]),
 (⟨some 83, (some (78, true)), .call n_play_Wins [(.t 79), (.t 80), (.t 82)]⟩, [0, 1, 2, 3, 4, 5, 6, 7, 8, 9]),
 (⟨some 84, (some (78, true)), .ld true 2 (.t 3)⟩, [0, 1, 2, 3, 4, 5]),
 (⟨some 85, (some (78, true)), .mov (.t 1)⟩, [0, 1, 2, 3, 4, 5]),
 (⟨some 86, (some (78, true)), .mov (.t 2)⟩, [0, 1, 2, 3, 4, 5]),
 (⟨some 87, (some (78, true)), .call n_play_Wins [(.t 84), (.t 85), (.t 86)]⟩, [0, 1, 2, 3, 4, 5, 6, 7, 8, 9, 10, 11, 12, 13]),
 (⟨some 88, (some (78, true)), .eq false .bool (.t 83) (.t 87)⟩, [0, 1, 2, 3, 4, 5, 6, 7, 8, 9, 10, 11, 12, 13, 14]),
 (⟨some 89, none, .pick (.t 78) (.t 88) (.c (.bool false))⟩, [0, 1, 2, 3, 4, 5, 6, 7, 8, 9, 10, 11, 12, 13, 14, 15]),
 (⟨some 6, none, .mov (.t 89)⟩, [0, 1, 2, 3, 4, 5, 6, 7, 8, 9, 10, 11, 12, 13, 14, 15, 16])] (some [6]))
 (.ret)))))))))
def F_law20_PlayTurned : F := ⟨i_law20_PlayTurned, [(6, none)], false⟩
def i_law20_PlaySame : IR := .seq (.rg [⟨some 3, none, .box (.t 0)⟩,
 ⟨some 6, none, .mov (.c (.bool false))⟩] (some [1, 2, 3]))
 (.seq (.seq (.rg [⟨some 7, none, .call n_law20_awake []⟩,
 ⟨some 8, none, .un .not (.t 7)⟩] (some [1, 2, 3, 8]))
 (.cond (.t 8) (.seq (.rg [⟨some 6, none, .mov (.c (.bool false))⟩] (some [6]))
 (.ret)) (.skip)))
 (.seq (.seq (.rg [⟨some 9, none, .ld true 2 (.t 3)⟩,
 ⟨some 10, none, .call n_law20_Large [(.t 9)]⟩,
 ⟨some 11, none, .mov (.t 10)⟩,
 ⟨some 12, (some (11, false)), .mov (.t 1)⟩,
 ⟨some 13, (some (11, false)), .len (.t 12)⟩,
 ⟨some 14, (some (11, false)), .bin .gtr (.t 13) (.c (.int .i64 200))⟩,
 ⟨some 15, none, .pick (.t 11) (.c (.bool true)) (.t 14)⟩] (some [1, 2, 3, 15]))
 (.cond (.t 15) (.seq (.rg [⟨some 6, none, .mov (.c (.bool true))⟩] (some [6]))
 (.ret)) (.skip)))
 (.seq (.dq [(⟨some 16, none, .ld true 2 (.t 3)⟩, []),
 (⟨some 17, none, .mov (.t 1)⟩, []),
 (⟨some 18, none, .mov (.t 2)⟩, []),
 (⟨some 19, none, .call n_play_Wins [(.t 16), (.t 17), (.t 18)]⟩, [0, 1, 2]),
 (⟨some 20, none, .ld true 2 (.t 3)⟩, []),
 (⟨some 21, none, .mov (.t 1)⟩, []),
 (⟨some 22, none, .call n_tree_Share [(.t 21)]⟩, [0, 1, 2, 3, 5]),
 (⟨some 23, none, .mov (.t 2)⟩, []),
 (⟨some 24, none, .call n_play_Wins [(.t 20), (.t 22), (.t 23)]⟩, [0, 1, 2, 3, 4, 5, 6, 7]),
 (⟨some 25, none, .eq false .bool (.t 19) (.t 24)⟩, [0, 1, 2, 3, 4, 5, 6, 7, 8]),
 (⟨some 6, none, .mov (.t 25)⟩, [0, 1, 2, 3, 4, 5, 6, 7, 8, 9])] (some [6]))
 (.ret))))
def F_law20_PlaySame : F := ⟨i_law20_PlaySame, [(6, none)], false⟩
def i_law20_awake : IR := .seq (.rg [⟨some 0, none, .mov (.c (.bool false))⟩] (some []))
 (.seq (.rg [⟨some 12, none, .call n_law20_two []⟩,
 ⟨some 13, none, .call n_law20_two []⟩,
 ⟨some 1, none, .new (.agg [.nsl 3, .nsl 6])⟩,
 ⟨some 2, none, .new (.agg [.nsl 3, .nsl 6])⟩,
 ⟨none, none, .st 2 (.t 1) (.t 12)⟩,
 ⟨none, none, .st 2 (.t 2) (.t 13)⟩] (some [1, 2]))
 (.seq (.rg [⟨some 14, none, .fad 0 (.t 2)⟩,
 ⟨some 15, none, .ld false 1 (.t 14)⟩,
 ⟨some 16, none, .iad 3 (.t 15) (.c (.int .i64 0))⟩,
 ⟨some 17, none, .fad 0 (.t 16)⟩,
 ⟨none, none, .st 1 (.t 17) (.c (.bool true))⟩] (some [1, 2]))
 (.seq (.rg [⟨some 18, none, .bld [.int .i64 0, .int .i64 0, .nsl 1] []⟩,
 ⟨some 19, none, .bsf (.int .i64 0) 1 [(0, (.c (.int .i64 0)))]⟩,
 ⟨some 20, none, .bld [.int .i64 0, .int .i64 0, .nsl 1] [(0, 1, (.c (.int .i64 1))), (1, 1, (.c (.int .i64 1))), (2, 1, (.t 19))]⟩,
 ⟨some 21, none, .bsf (.agg [.int .i64 0, .int .i64 0, .nsl 1]) 2 [(0, (.t 18)), (1, (.t 20))]⟩,
 ⟨some 3, none, .mov (.t 21)⟩] (some [1, 2, 3]))
 (.seq (.rg [⟨some 22, none, .bld [.int .i64 0, .int .i64 0, .nsl 1] []⟩,
 ⟨some 23, none, .bsf (.int .i64 0) 1 [(0, (.c (.int .i64 0)))]⟩,
 ⟨some 24, none, .bld [.int .i64 0, .int .i64 0, .nsl 1] [(0, 1, (.c (.int .i64 1))), (2, 1, (.t 23))]⟩,
 ⟨some 25, none, .bsf (.agg [.int .i64 0, .int .i64 0, .nsl 1]) 2 [(0, (.t 22)), (1, (.t 24))]⟩,
 ⟨some 4, none, .mov (.t 25)⟩] (some [1, 2, 3, 4]))
 (.seq (.rg [⟨some 26, none, .bld [.int .i64 0, .int .i64 0, .nsl 1] []⟩,
 ⟨some 27, none, .bsf (.int .i64 0) 2 [(0, (.c (.int .i64 0))), (1, (.c (.int .i64 0)))]⟩,
 ⟨some 28, none, .bld [.int .i64 0, .int .i64 0, .nsl 1] [(0, 1, (.c (.int .i64 2))), (2, 1, (.t 27))]⟩,
 ⟨some 29, none, .bsf (.agg [.int .i64 0, .int .i64 0, .nsl 1]) 2 [(0, (.t 26)), (1, (.t 28))]⟩,
 ⟨some 5, none, .mov (.t 29)⟩] (some [1, 2, 3, 4, 5]))
 (.seq (.rg [⟨some 31, none, .ld true 2 (.t 1)⟩,
 ⟨some 32, none, .bsf (.int .i64 0) 1 [(0, (.c (.int .i64 2)))]⟩,
 ⟨some 33, none, .call n_play_Over [(.t 31), (.t 32)]⟩,
 ⟨some 30, none, .mov (.t 33)⟩,
 ⟨some 34, none, .ext (.t 30) 0⟩,
 ⟨some 35, none, .ext (.t 30) 1⟩,
 ⟨some 6, none, .mov (.t 34)⟩,
 ⟨some 7, none, .mov (.t 35)⟩] (some [1, 2, 3, 4, 5, 6, 7]))
 (.seq (.rg [⟨some 37, none, .ld true 2 (.t 1)⟩,
 ⟨some 38, none, .call n_play_Over [(.t 37), (.c (.nsl 1))]⟩,
 ⟨some 36, none, .mov (.t 38)⟩,
 ⟨some 39, none, .ext (.t 36) 0⟩,
 ⟨some 40, none, .ext (.t 36) 1⟩,
 ⟨some 8, none, .mov (.t 39)⟩,
 ⟨some 9, none, .mov (.t 40)⟩] (some [1, 2, 3, 4, 5, 6, 7, 8]))
 (.seq (.rg [⟨some 42, none, .ld true 2 (.t 1)⟩,
 ⟨some 43, none, .bsf (.int .i64 0) 1 [(0, (.c (.int .i64 3)))]⟩,
 ⟨some 44, none, .call n_play_Over [(.t 42), (.t 43)]⟩,
 ⟨some 41, none, .mov (.t 44)⟩,
 ⟨some 45, none, .ext (.t 41) 0⟩,
 ⟨some 46, none, .ext (.t 41) 1⟩,
 ⟨some 10, none, .mov (.t 45)⟩,
 ⟨some 11, none, .mov (.t 46)⟩] (some [1, 2, 3, 4, 5, 6, 7, 8, 10]))
 (.seq (.rg [⟨some 47, none, .ld true 2 (.t 1)⟩,
 ⟨some 48, none, .mov (.t 3)⟩,
 ⟨some 49, none, .call n_play_Wins [(.t 47), (.t 48), (.c (.bool true))]⟩,
 ⟨some 50, none, .mov (.t 49)⟩,
 ⟨some 51, (some (50, true)), .ld true 2 (.t 1)⟩,
 ⟨some 52, (some (50, true)), .mov (.t 4)⟩,
 ⟨some 53, (some (50, true)), .call n_play_Wins [(.t 51), (.t 52), (.c (.bool true))]⟩,
 ⟨some 54, (some (50, true)), .un .not (.t 53)⟩,
 ⟨some 55, none, .pick (.t 50) (.t 54) (.c (.bool false))⟩,
 ⟨some 56, none, .mov (.t 55)⟩,
 ⟨some 57, (some (56, true)), .ld true 2 (.t 1)⟩,
 ⟨some 58, (some (56, true)), .mov (.t 5)⟩,
 ⟨some 59, (some (56, true)), .call n_play_Wins [(.t 57), (.t 58), (.c (.bool true))]⟩,
 ⟨some 60, (some (56, true)), .un .not (.t 59)⟩,
 ⟨some 61, none, .pick (.t 56) (.t 60) (.c (.bool false))⟩,
 ⟨some 62, none, .mov (.t 61)⟩,
 ⟨some 63, (some (62, true)), .ld true 2 (.t 1)⟩,
 ⟨some 64, (some (62, true)), .mov (.t 3)⟩,
 ⟨some 65, (some (62, true)), .call n_play_Wins [(.t 63), (.t 64), (.c (.bool false))]⟩,
 ⟨some 66, (some (62, true)), .un .not (.t 65)⟩,
 ⟨some 67, none, .pick (.t 62) (.t 66) (.c (.bool false))⟩,
 ⟨some 68, none, .mov (.t 67)⟩,
 ⟨some 69, (some (68, true)), .ld true 2 (.t 2)⟩,
 ⟨some 70, (some (68, true)), .mov (.t 5)⟩,
 ⟨some 71, (some (68, true)), .call n_play_Wins [(.t 69), (.t 70), (.c (.bool true))]⟩,
 ⟨some 72, (some (68, true)), .un .not (.t 71)⟩,
 ⟨some 73, none, .pick (.t 68) (.t 72) (.c (.bool false))⟩,
 ⟨some 74, none, .mov (.t 73)⟩,
 ⟨some 75, (some (74, true)), .ld true 2 (.t 2)⟩,
 ⟨some 76, (some (74, true)), .mov (.t 4)⟩,
 ⟨some 77, (some (74, true)), .call n_play_Wins [(.t 75), (.t 76), (.c (.bool false))]⟩,
 ⟨some 78, none, .pick (.t 74) (.t 77) (.c (.bool false))⟩,
 ⟨some 79, none, .mov (.t 78)⟩,
 ⟨some 80, (some (79, true)), .ld true 2 (.t 2)⟩,
 ⟨some 81, (some (79, true)), .mov (.t 3)⟩,
 ⟨some 82, (some (79, true)), .call n_play_Wins [(.t 80), (.t 81), (.c (.bool false))]⟩,
 ⟨some 83, (some (79, true)), .un .not (.t 82)⟩,
 ⟨some 84, none, .pick (.t 79) (.t 83) (.c (.bool false))⟩,
 ⟨some 85, none, .mov (.t 84)⟩,
 ⟨some 86, (some (85, true)), .mov (.t 6)⟩,
 ⟨some 87, none, .pick (.t 85) (.t 86) (.c (.bool false))⟩,
 ⟨some 88, none, .mov (.t 87)⟩,
 ⟨some 89, (some (88, true)), .mov (.t 7)⟩,
 ⟨some 90, none, .pick (.t 88) (.t 89) (.c (.bool false))⟩,
 ⟨some 91, none, .mov (.t 90)⟩,
 ⟨some 92, (some (91, true)), .mov (.t 8)⟩,
 ⟨some 93, (some (91, true)), .un .not (.t 92)⟩,
 ⟨some 94, none, .pick (.t 91) (.t 93) (.c (.bool false))⟩,
 ⟨some 95, none, .mov (.t 94)⟩,
 ⟨some 96, (some (95, true)), .mov (.t 10)⟩,
 ⟨some 97, (some (95, true)), .un .not (.t 96)⟩,
 ⟨some 98, none, .pick (.t 95) (.t 97) (.c (.bool false))⟩,
 ⟨some 99, none, .mov (.t 98)⟩,
 ⟨some 100, (some (99, true)), .ld true 2 (.t 1)⟩,
 ⟨some 101, (some (99, true)), .call n_play_Value [(.t 100)]⟩,
 ⟨some 102, none, .pick (.t 99) (.t 101) (.c (.bool false))⟩,
 ⟨some 103, none, .mov (.t 102)⟩,
 ⟨some 104, (some (103, true)), .ld true 2 (.t 2)⟩,
 ⟨some 105, (some (103, true)), .call n_play_Value [(.t 104)]⟩,
 ⟨some 106, (some (103, true)), .un .not (.t 105)⟩,
 ⟨some 107, none, .pick (.t 103) (.t 106) (.c (.bool false))⟩,
 ⟨some 108, none, .mov (.t 107)⟩,
 ⟨some 109, (some (108, true)), .ld true 2 (.t 1)⟩,
 ⟨some 110, (some (108, true)), .call n_play_Wins [(.t 109), (.c (.nsl 3)), (.c (.bool true))]⟩,
 ⟨some 111, (some (108, true)), .un .not (.t 110)⟩,
 ⟨some 112, none, .pick (.t 108) (.t 111) (.c (.bool false))⟩,
 ⟨some 113, none, .mov (.t 112)⟩,
 ⟨some 114, (some (113, true)), .bld [.nsl 3, .nsl 6] []⟩,
 ⟨some 115, (some (113, true)), .call n_play_Value [(.t 114)]⟩,
 ⟨some 116, (some (113, true)), .un .not (.t 115)⟩,
 ⟨some 117, none, .pick (.t 113) (.t 116) (.c (.bool false))⟩,
 ⟨some 0, none, .mov (.t 117)⟩] (some [0]))
 (.ret))))))))))
def F_law20_awake : F := ⟨i_law20_awake, [(0, none)], false⟩
def i_law20_Large : IR := .seq (.rg [⟨some 1, none, .box (.t 0)⟩,
 ⟨some 2, none, .mov (.c (.bool false))⟩] (some [1]))
 (.seq (.rg [⟨some 3, none, .ld true 2 (.t 1)⟩,
 ⟨some 4, none, .call n_law08_Large [(.t 3)]⟩,
 ⟨some 5, none, .mov (.t 4)⟩,
 ⟨some 6, (some (5, false)), .ld true 2 (.t 1)⟩,
 ⟨some 7, (some (5, false)), .call n_ref08_Check [(.t 6)]⟩,
 ⟨some 8, (some (5, false)), .bin .eql (.t 7) (.c (.int .i64 0))⟩,
 ⟨some 9, (some (5, false)), .mov (.t 8)⟩,
 ⟨some 10, (some (9, true)), .ld true 2 (.t 1)⟩,
 ⟨some 11, (some (9, true)), .call n_ref20_Plays [(.t 10)]⟩,
 ⟨some 12, (some (9, true)), .bin .gtr (.t 11) (.c (.int .i64 3000))⟩,
 ⟨some 13, (some (5, false)), .pick (.t 9) (.t 12) (.c (.bool false))⟩,
 ⟨some 14, none, .pick (.t 5) (.c (.bool true)) (.t 13)⟩,
 ⟨some 2, none, .mov (.t 14)⟩] (some [2]))
 (.ret))
def F_law20_Large : F := ⟨i_law20_Large, [(2, none)], false⟩
def b_play_Over_0 : IR := .seq (.rg [⟨some 25, none, .bin .lss (.t 24) (.t 23)⟩] (some [1, 6, 22, 23, 24, 25]))
 (.seq (.cond (.t 25) (.skip) (.ext 0))
 (.seq (.blk 1 (.seq (.rg [⟨some 26, none, .mov (.t 24)⟩,
 ⟨some 27, none, .iad 1 (.t 22) (.t 24)⟩,
 ⟨some 28, none, .ld false 1 (.t 27)⟩,
 ⟨some 7, none, .mov (.t 26)⟩,
 ⟨some 8, none, .mov (.t 28)⟩] (some [1, 6, 7, 8, 22, 23, 24]))
 (.seq (.rg [⟨some 29, none, .mov (.t 6)⟩,
 ⟨some 30, none, .nck (.t 29)⟩,
 ⟨some 31, none, .fad 2 (.t 30)⟩,
 ⟨some 32, none, .ld false 1 (.t 31)⟩,
 ⟨some 33, none, .mov (.t 7)⟩,
 ⟨some 34, none, .iad 2 (.t 32) (.t 33)⟩,
 ⟨some 35, none, .fad 1 (.t 34)⟩,
 ⟨some 36, none, .ld false 1 (.t 35)⟩,
 ⟨some 37, none, .mov (.t 8)⟩,
 ⟨some 38, none, .call n_spans_Has [(.t 36), (.t 37)]⟩,
 ⟨some 39, none, .un .not (.t 38)⟩] (some [1, 6, 22, 23, 24, 39]))
 (.cond (.t 39) (.seq (.rg [⟨some 4, none, .mov (.c (.bool false))⟩,
 ⟨some 5, none, .mov (.c (.bool false))⟩] (some [4, 5]))
 (.ret)) (.skip)))))
 (.rg [⟨some 40, none, .bin .add (.t 24) (.c (.int .i64 1))⟩,
 ⟨some 24, none, .mov (.t 40)⟩] (some [1, 6, 22, 23, 24]))))
def i_play_Over_l0 : IR := .loop b_play_Over_0
def i_play_Over : IR := .seq (.rg [⟨some 2, none, .box (.t 0)⟩,
 ⟨some 4, none, .mov (.c (.bool false))⟩,
 ⟨some 5, none, .mov (.c (.bool false))⟩] (some [1, 2]))
 (.seq (.seq (.rg [⟨some 9, none, .ld true 2 (.t 2)⟩,
 ⟨some 10, none, .call n_model_Check [(.t 9)]⟩,
 ⟨some 11, none, .bin .neq (.t 10) (.c (.int .i64 0))⟩] (some [1, 2, 11]))
 (.cond (.t 11) (.seq (.rg [⟨some 4, none, .mov (.c (.bool false))⟩,
 ⟨some 5, none, .mov (.c (.bool false))⟩] (some [4, 5]))
 (.ret)) (.skip)))
 (.seq (.rg [⟨some 12, none, .ld true 2 (.t 2)⟩,
 ⟨some 13, none, .call n_play_lay [(.t 12)]⟩,
 ⟨some 6, none, .mov (.t 13)⟩] (some [1, 6]))
 (.seq (.seq (.rg [⟨some 14, none, .mov (.t 1)⟩,
 ⟨some 15, none, .len (.t 14)⟩,
 ⟨some 16, none, .mov (.t 6)⟩,
 ⟨some 17, none, .nck (.t 16)⟩,
 ⟨some 18, none, .fad 2 (.t 17)⟩,
 ⟨some 19, none, .ld false 1 (.t 18)⟩,
 ⟨some 20, none, .len (.t 19)⟩,
 ⟨some 21, none, .bin .gtr (.t 15) (.t 20)⟩] (some [1, 6, 21]))
 (.cond (.t 21) (.seq (.rg [⟨some 4, none, .mov (.c (.bool false))⟩,
 ⟨some 5, none, .mov (.c (.bool false))⟩] (some [4, 5]))
 (.ret)) (.skip)))
 (.seq (.seq (.rg [⟨some 22, none, .mov (.t 1)⟩,
 ⟨some 23, none, .len (.t 22)⟩,
 ⟨some 24, none, .mov (.c (.int .i64 0))⟩] (some [1, 6, 22, 23, 24]))
 (.blk 0 (i_play_Over_l0)))
 (.seq (.rg [⟨some 41, none, .mov (.t 6)⟩,
 ⟨some 42, none, .mov (.t 1)⟩,
 ⟨some 43, none, .call n_play_table_over [(.t 41), (.t 42)]⟩,
 ⟨some 44, none, .ext (.t 43) 0⟩,
 ⟨some 45, none, .ext (.t 43) 1⟩,
 ⟨some 4, none, .mov (.t 44)⟩,
 ⟨some 5, none, .mov (.t 45)⟩] (some [4, 5]))
 (.ret))))))
def F_play_Over : F := ⟨i_play_Over, [(4, none), (5, none)], false⟩
def b_ref20_Row_0 : IR := .seq (.seq (.rg [⟨some 19, none, .mov (.t 6)⟩,
 ⟨some 20, none, .mov (.t 1)⟩,
 ⟨some 21, none, .len (.t 20)⟩,
 ⟨some 22, none, .bin .lss (.t 19) (.t 21)⟩] (some [1, 5, 6, 22]))
 (.cond (.t 22) (.skip) (.ext 0)))
 (.seq (.blk 1 (.seq (.dq [(⟨some 25, none, .mov (.t 5)⟩, []),
 (⟨some 26, none, .mov (.t 6)⟩, []),
 (⟨some 27, none, .iad 2 (.t 25) (.t 26)⟩, [0, 1]),
 (⟨some 28, none, .fad 1 (.t 27)⟩, [0, 1, 2]),
 (⟨some 29, none, .ld false 1 (.t 28)⟩, [0, 1, 2, 3]),
 (⟨some 30, none, .mov (.t 1)⟩, []),
 (⟨some 31, none, .mov (.t 6)⟩, []),
 (⟨some 32, none, .iad 1 (.t 30) (.t 31)⟩, [5, 6]),
 (⟨some 33, none, .ld false 1 (.t 32)⟩, [5, 6, 7]),
 (⟨some 34, none, .call n_ref03_In [(.t 29), (.t 33)]⟩, [0, 1, 2, 3, 4, 5, 6, 7, 8]),
 (⟨some 35, none, .un .not (.t 34)⟩, [0, 1, 2, 3, 4, 5, 6, 7, 8, 9])] (some [1, 5, 6, 35]))
 (.cond (.t 35) (.seq (.rg [⟨some 4, none, .mov (.c (.bool false))⟩] (some [4]))
 (.ret)) (.skip))))
 (.rg [⟨some 23, none, .mov (.t 6)⟩,
 ⟨some 24, none, .bin .add (.t 23) (.c (.int .i64 1))⟩,
 ⟨some 6, none, .mov (.t 24)⟩] (some [1, 5, 6])))
def i_ref20_Row_l0 : IR := .loop b_ref20_Row_0
def i_ref20_Row : IR := .seq (.rg [⟨some 2, none, .box (.t 0)⟩,
 ⟨some 4, none, .mov (.c (.bool false))⟩] (some [1, 2]))
 (.seq (.rg [⟨some 7, none, .ld true 2 (.t 2)⟩,
 ⟨some 8, none, .call n_ref08_Vars [(.t 7)]⟩,
 ⟨some 5, none, .mov (.t 8)⟩] (some [1, 2, 5]))
 (.seq (.seq (.rg [⟨some 9, none, .ld true 2 (.t 2)⟩,
 ⟨some 10, none, .call n_ref08_Check [(.t 9)]⟩,
 ⟨some 11, none, .bin .neq (.t 10) (.c (.int .i64 0))⟩,
 ⟨some 12, none, .mov (.t 11)⟩,
 ⟨some 13, (some (12, false)), .mov (.t 1)⟩,
 ⟨some 14, (some (12, false)), .len (.t 13)⟩,
 ⟨some 15, (some (12, false)), .mov (.t 5)⟩,
 ⟨some 16, (some (12, false)), .len (.t 15)⟩,
 ⟨some 17, (some (12, false)), .bin .gtr (.t 14) (.t 16)⟩,
 ⟨some 18, none, .pick (.t 12) (.c (.bool true)) (.t 17)⟩] (some [1, 5, 18]))
 (.cond (.t 18) (.seq (.rg [⟨some 4, none, .mov (.c (.bool false))⟩] (some [4]))
 (.ret)) (.skip)))
 (.seq (.seq (.rg [⟨some 6, none, .mov (.c (.int .i64 0))⟩] (some [1, 5, 6]))
 (.blk 0 (i_ref20_Row_l0)))
 (.seq (.rg [⟨some 4, none, .mov (.c (.bool true))⟩] (some [4]))
 (.ret)))))
def F_ref20_Row : F := ⟨i_ref20_Row, [(4, none)], false⟩
def b_ref20_Over_0 : IR := .seq (.seq (.rg [⟨some 10, none, .mov (.t 7)⟩,
 ⟨some 11, none, .mov (.t 6)⟩,
 ⟨some 12, none, .len (.t 11)⟩,
 ⟨some 13, none, .bin .lss (.t 10) (.t 12)⟩] (some [1, 2, 6, 7, 13]))
 (.cond (.t 13) (.skip) (.ext 0)))
 (.seq (.blk 1 (.seq (.rg [⟨some 16, none, .mov (.t 6)⟩,
 ⟨some 17, none, .mov (.t 7)⟩,
 ⟨some 18, none, .iad 1 (.t 16) (.t 17)⟩,
 ⟨some 19, none, .ld false 1 (.t 18)⟩,
 ⟨some 20, none, .mov (.t 1)⟩,
 ⟨some 21, none, .len (.t 20)⟩,
 ⟨some 22, none, .bin .eql (.t 19) (.t 21)⟩,
 ⟨some 23, none, .mov (.t 22)⟩,
 ⟨some 24, (some (23, true)), .fad 0 (.t 2)⟩,
 ⟨some 25, (some (23, true)), .ld false 1 (.t 24)⟩,
 ⟨some 26, (some (23, true)), .mov (.t 7)⟩,
 ⟨some 27, (some (23, true)), .iad 3 (.t 25) (.t 26)⟩,
 ⟨some 28, (some (23, true)), .fad 2 (.t 27)⟩,
 ⟨some 29, (some (23, true)), .ld false 1 (.t 28)⟩,
 ⟨some 30, (some (23, true)), .mov (.t 1)⟩,
 ⟨some 31, (some (23, true)), .call n_ref11_All [(.t 29), (.t 30)]⟩,
 ⟨some 32, (some (23, true)), .un .not (.t 31)⟩,
 ⟨some 33, none, .pick (.t 23) (.t 32) (.c (.bool false))⟩] (some [1, 2, 6, 7, 33]))
 (.cond (.t 33) (.seq (.dq [(⟨some 34, none, .fad 0 (.t 2)⟩, []),
 (⟨some 35, none, .ld false 1 (.t 34)⟩, [0]),
 (⟨some 36, none, .mov (.t 7)⟩, []),
 (⟨some 37, none, .iad 3 (.t 35) (.t 36)⟩, [0, 1, 2]),
 (⟨some 38, none, .fad 0 (.t 37)⟩, [0, 1, 2, 3]),
 (⟨some 39, none, .ld false 1 (.t 38)⟩, [0, 1, 2, 3, 4]),
 (⟨some 4, none, .mov (.c (.bool true))⟩, []),
 (⟨some 5, none, .mov (.t 39)⟩, [0, 1, 2, 3, 4, 5, 6])] (some [4, 5]))
 (.ret)) (.skip))))
 (.rg [⟨some 14, none, .mov (.t 7)⟩,
 ⟨some 15, none, .bin .add (.t 14) (.c (.int .i64 1))⟩,
 ⟨some 7, none, .mov (.t 15)⟩] (some [1, 2, 6, 7])))
def i_ref20_Over_l0 : IR := .loop b_ref20_Over_0
def i_ref20_Over : IR := .seq (.rg [⟨some 2, none, .box (.t 0)⟩,
 ⟨some 4, none, .mov (.c (.bool false))⟩,
 ⟨some 5, none, .mov (.c (.bool false))⟩] (some [1, 2]))
 (.seq (.rg [⟨some 8, none, .ld true 2 (.t 2)⟩,
 ⟨some 9, none, .call n_ref08_Ends [(.t 8)]⟩,
 ⟨some 6, none, .mov (.t 9)⟩] (some [1, 2, 6]))
 (.seq (.seq (.rg [⟨some 7, none, .mov (.c (.int .i64 0))⟩] (some [1, 2, 6, 7]))
 (.blk 0 (i_ref20_Over_l0)))
 (.seq (.seq (.rg [⟨some 40, none, .mov (.t 1)⟩,
 ⟨some 41, none, .len (.t 40)⟩,
 ⟨some 42, none, .ld true 2 (.t 2)⟩,
 ⟨some 43, none, .call n_ref08_Vars [(.t 42)]⟩,
 ⟨some 44, none, .len (.t 43)⟩,
 ⟨some 45, none, .bin .eql (.t 41) (.t 44)⟩] (some [1, 2, 45]))
 (.cond (.t 45) (.seq (.rg [⟨some 46, none, .fad 1 (.t 2)⟩,
 ⟨some 47, none, .ld false 1 (.t 46)⟩,
 ⟨some 48, none, .mov (.t 1)⟩,
 ⟨some 49, none, .call n_ref11_All [(.t 47), (.t 48)]⟩,
 ⟨some 4, none, .mov (.c (.bool true))⟩,
 ⟨some 5, none, .mov (.t 49)⟩] (some [4, 5]))
 (.ret)) (.skip)))
 (.seq (.rg [⟨some 4, none, .mov (.c (.bool false))⟩,
 ⟨some 5, none, .mov (.c (.bool false))⟩] (some [4, 5]))
 (.ret)))))
def F_ref20_Over : F := ⟨i_ref20_Over, [(4, none), (5, none)], false⟩
def i_play_Wins : IR := .seq (.rg [⟨some 3, none, .box (.t 0)⟩,
 ⟨some 6, none, .mov (.c (.bool false))⟩] (some [1, 2, 3]))
 (.seq (.rg [⟨some 7, none, .ld true 2 (.t 3)⟩,
 ⟨some 8, none, .call n_model_Check [(.t 7)]⟩,
 ⟨some 9, none, .bin .eql (.t 8) (.c (.int .i64 0))⟩,
 ⟨some 10, none, .mov (.t 9)⟩,
 ⟨some 11, (some (10, true)), .mov (.t 1)⟩,
 ⟨some 12, (some (10, true)), .call n_tree_May [(.t 11)]⟩,
 ⟨some 13, none, .pick (.t 10) (.t 12) (.c (.bool false))⟩,
 ⟨some 14, none, .mov (.t 13)⟩,
 ⟨some 15, (some (14, true)), .ld true 2 (.t 3)⟩,
 ⟨some 16, (some (14, true)), .call n_play_lay [(.t 15)]⟩,
 ⟨some 17, (some (14, true)), .mov (.t 1)⟩,
 ⟨some 18, (some (14, true)), .mov (.t 1)⟩,
 ⟨some 19, (some (14, true)), .len (.t 18)⟩,
 ⟨some 20, (some (14, true)), .bin .sub (.t 19) (.c (.int .i64 1))⟩,
 ⟨some 21, (some (14, true)), .mov (.t 2)⟩,
 ⟨some 22, (some (14, true)), .call n_play_table_wins [(.t 16), (.t 17), (.t 20), (.t 21), (.c (.nsl 1))]⟩,
 ⟨some 23, none, .pick (.t 14) (.t 22) (.c (.bool false))⟩,
 ⟨some 6, none, .mov (.t 23)⟩] (some [6]))
 (.ret))
def F_play_Wins : F := ⟨i_play_Wins, [(6, none)], false⟩
def i_ref20_Wins : IR := .seq (.rg [⟨some 3, none, .box (.t 0)⟩,
 ⟨some 6, none, .mov (.c (.bool false))⟩] (some [1, 2, 3]))
 (.seq (.rg [⟨some 7, none, .ld true 2 (.t 3)⟩,
 ⟨some 8, none, .call n_ref08_Check [(.t 7)]⟩,
 ⟨some 9, none, .bin .eql (.t 8) (.c (.int .i64 0))⟩,
 ⟨some 10, none, .mov (.t 9)⟩,
 ⟨some 11, (some (10, true)), .mov (.t 1)⟩,
 ⟨some 12, (some (10, true)), .call n_ref19_May [(.t 11)]⟩,
 ⟨some 13, none, .pick (.t 10) (.t 12) (.c (.bool false))⟩,
 ⟨some 14, none, .mov (.t 13)⟩,
 ⟨some 15, (some (14, true)), .ld true 2 (.t 3)⟩,
 ⟨some 16, (some (14, true)), .mov (.t 1)⟩,
 ⟨some 17, (some (14, true)), .mov (.t 1)⟩,
 ⟨some 18, (some (14, true)), .len (.t 17)⟩,
 ⟨some 19, (some (14, true)), .bin .sub (.t 18) (.c (.int .i64 1))⟩,
 ⟨some 20, (some (14, true)), .mov (.t 2)⟩,
 ⟨some 21, (some (14, true)), .call n_ref20_wins [(.t 15), (.t 16), (.t 19), (.t 20), (.c (.nsl 1))]⟩,
 ⟨some 22, none, .pick (.t 14) (.t 21) (.c (.bool false))⟩,
 ⟨some 6, none, .mov (.t 22)⟩] (some [6]))
 (.ret))
def F_ref20_Wins : F := ⟨i_ref20_Wins, [(6, none)], false⟩
def b_law19_Own_0 : IR := .seq (.rg [⟨some 10, none, .bin .lss (.t 9) (.t 8)⟩] (some [3, 7, 8, 9, 10]))
 (.seq (.cond (.t 10) (.skip) (.ext 0))
 (.seq (.blk 1 (.seq (.rg [⟨some 11, none, .iad 3 (.t 7) (.t 9)⟩,
 ⟨some 12, none, .ld true 3 (.t 11)⟩,
 ⟨some 5, none, .new (.agg [.int .i64 0, .int .i64 0, .nsl 1])⟩,
 ⟨none, none, .st 3 (.t 5) (.t 12)⟩] (some [3, 5, 7, 8, 9]))
 (.rg [⟨some 13, none, .mov (.t 3)⟩,
 ⟨some 14, none, .ld true 3 (.t 5)⟩,
 ⟨some 15, none, .bsf (.agg [.int .i64 0, .int .i64 0, .nsl 1]) 1 [(0, (.t 14))]⟩,
 ⟨some 16, none, .app 3 40 (.t 13) (.t 15)⟩,
 ⟨some 3, none, .mov (.t 16)⟩] (some [3, 7, 8, 9]))))
 (.rg [⟨some 17, none, .bin .add (.t 9) (.c (.int .i64 1))⟩,
 ⟨some 9, none, .mov (.t 17)⟩] (some [3, 7, 8, 9]))))
def i_law19_Own_l0 : IR := .loop b_law19_Own_0
def i_law19_Own : IR := .seq (.rg [⟨some 2, none, .mov (.c (.nsl 3))⟩] (some [0]))
 (.seq (.rg [⟨some 6, none, .bsl (.agg [.int .i64 0, .int .i64 0, .nsl 1]) 0 []⟩,
 ⟨some 3, none, .mov (.t 6)⟩] (some [0, 3]))
 (.seq (.seq (.rg [⟨some 7, none, .mov (.t 0)⟩,
 ⟨some 8, none, .len (.t 7)⟩,
 ⟨some 9, none, .mov (.c (.int .i64 0))⟩] (some [3, 7, 8, 9]))
 (.blk 0 (i_law19_Own_l0)))
 (.seq (.rg [⟨some 18, none, .mov (.t 3)⟩,
 ⟨some 2, none, .mov (.t 18)⟩] (some [2]))
 (.ret))))
def F_law19_Own : F := ⟨i_law19_Own, [(2, none)], false⟩
def i_play_Value : IR := .seq (.rg [⟨some 1, none, .box (.t 0)⟩,
 ⟨some 2, none, .mov (.c (.bool false))⟩] (some [1]))
 (.seq (.rg [⟨some 3, none, .ld true 2 (.t 1)⟩,
 ⟨some 4, none, .call n_model_Check [(.t 3)]⟩,
 ⟨some 5, none, .bin .eql (.t 4) (.c (.int .i64 0))⟩,
 ⟨some 6, none, .mov (.t 5)⟩,
 ⟨some 7, (some (6, true)), .ld true 2 (.t 1)⟩,
 ⟨some 8, (some (6, true)), .call n_play_lay [(.t 7)]⟩,
 ⟨some 9, (some (6, true)), .call n_play_table_value [(.t 8), (.c (.nsl 1))]⟩,
 ⟨some 10, none, .pick (.t 6) (.t 9) (.c (.bool false))⟩,
 ⟨some 2, none, .mov (.t 10)⟩] (some [2]))
 (.ret))
def F_play_Value : F := ⟨i_play_Value, [(2, none)], false⟩
def i_ref20_Value : IR := .seq (.rg [⟨some 1, none, .box (.t 0)⟩,
 ⟨some 2, none, .mov (.c (.bool false))⟩] (some [1]))
 (.seq (.rg [⟨some 3, none, .ld true 2 (.t 1)⟩,
 ⟨some 4, none, .call n_ref08_Check [(.t 3)]⟩,
 ⟨some 5, none, .bin .eql (.t 4) (.c (.int .i64 0))⟩,
 ⟨some 6, none, .mov (.t 5)⟩,
 ⟨some 7, (some (6, true)), .ld true 2 (.t 1)⟩,
 ⟨some 8, (some (6, true)), .call n_ref20_value [(.t 7), (.c (.nsl 1))]⟩,
 ⟨some 9, none, .pick (.t 6) (.t 8) (.c (.bool false))⟩,
 ⟨some 2, none, .mov (.t 9)⟩] (some [2]))
 (.ret))
def F_ref20_Value : F := ⟨i_ref20_Value, [(2, none)], false⟩
def b_ref08_Check_0 : IR := .seq (.seq (.rg [⟨some 63, none, .mov (.t 8)⟩,
 ⟨some 64, none, .fad 0 (.t 1)⟩,
 ⟨some 65, none, .ld false 1 (.t 64)⟩,
 ⟨some 66, none, .mov (.t 7)⟩,
 ⟨some 67, none, .iad 3 (.t 65) (.t 66)⟩,
 ⟨some 68, none, .fad 2 (.t 67)⟩,
 ⟨some 69, none, .ld false 1 (.t 68)⟩,
 ⟨some 70, none, .len (.t 69)⟩,
 ⟨some 71, none, .bin .lss (.t 63) (.t 70)⟩] (some [1, 3, 4, 5, 6, 7, 8, 71]))
 (.cond (.t 71) (.skip) (.ext 2)))
 (.seq (.blk 3 (.dq [(⟨some 74, none, .mov (.t 5)⟩, []),
 (⟨some 75, none, .mov (.t 74)⟩, [0]),
 (⟨some 76, (some (75, false)), .fad 0 (.t 1)⟩, [0, 1]),
 (⟨some 77, (some (75, false)), .ld false 1 (.t 76)⟩, [0, 1, 2]),
 (⟨some 78, (some (75, false)), .mov (.t 7)⟩, [0, 1]),
 (⟨some 79, (some (75, false)), .iad 3 (.t 77) (.t 78)⟩, [0, 1, 2, 3, 4]),
 (⟨some 80, (some (75, false)), .fad 2 (.t 79)⟩, [0, 1, 2, 3, 4, 5]),
 (⟨some 81, (some (75, false)), .ld false 1 (.t 80)⟩, [0, 1, 2, 3, 4, 5, 6]),
 (⟨some 82, (some (75, false)), .mov (.t 8)⟩, [0, 1]),
 (⟨some 83, (some (75, false)), .iad 6 (.t 81) (.t 82)⟩, [0, 1, 2, 3, 4, 5, 6, 7, 8]),
 (⟨some 84, (some (75, false)), .ld true 6 (.t 83)⟩, [0, 1, 2, 3, 4, 5, 6, 7, 8, 9]),
 (⟨some 85, (some (75, false)), .mov (.t 6)⟩, [0, 1]),
 (⟨some 86, (some (75, false)), .mov (.t 7)⟩, [0, 1]),
 (⟨some 87, (some (75, false)), .iad 1 (.t 85) (.t 86)⟩, [0, 1, 11, 12]),
 (⟨some 88, (some (75, false)), .ld false 1 (.t 87)⟩, [0, 1, 11, 12, 13]),
 (⟨some 89, (some (75, false)), .call n_ref08_Right [(.t 84), (.t 88)]⟩, [0, 1, 2, 3, 4, 5, 6, 7, 8, 9, 10, 11, 12, 13, 14]),
 (⟨some 90, (some (75, false)), .un .not (.t 89)⟩, [0, 1, 2, 3, 4, 5, 6, 7, 8, 9, 10, 11, 12, 13, 14, 15]),
 (⟨some 91, none, .pick (.t 75) (.c (.bool true)) (.t 90)⟩, [0, 1, 2, 3, 4, 5, 6, 7, 8, 9, 10, 11, 12, 13, 14, 15, 16]),
 (⟨some 5, none, .mov (.t 91)⟩, [0, 1, 2, 3, 4, 5, 6, 7, 8, 9, 10, 11, 12, 13, 14, 15, 16, 17])] (some [1, 3, 4, 5, 6, 7, 8])))
 (.rg [⟨some 72, none, .mov (.t 8)⟩,
 ⟨some 73, none, .bin .add (.t 72) (.c (.int .i64 1))⟩,
 ⟨some 8, none, .mov (.t 73)⟩] (some [1, 3, 4, 5, 6, 7, 8])))
def i_ref08_Check_l0 : IR := .loop b_ref08_Check_0
theorem r_ref08_Check_0 {C : Cx} {Y : Yl} {fr : Fr} {h : List Ob} : evw C Y i_ref08_Check_l0 fr h = nxt (evw C Y b_ref08_Check_0 fr h) fun fr h => evw C Y i_ref08_Check_l0 fr h := w_loop
def b_ref08_Check_1 : IR := .seq (.seq (.rg [⟨some 37, none, .mov (.t 7)⟩,
 ⟨some 38, none, .fad 0 (.t 1)⟩,
 ⟨some 39, none, .ld false 1 (.t 38)⟩,
 ⟨some 40, none, .len (.t 39)⟩,
 ⟨some 41, none, .bin .lss (.t 37) (.t 40)⟩] (some [1, 3, 4, 5, 6, 7, 41]))
 (.cond (.t 41) (.skip) (.ext 0)))
 (.seq (.blk 1 (.seq (.seq (.rg [⟨some 44, none, .fad 0 (.t 1)⟩,
 ⟨some 45, none, .ld false 1 (.t 44)⟩,
 ⟨some 46, none, .mov (.t 7)⟩,
 ⟨some 47, none, .iad 3 (.t 45) (.t 46)⟩,
 ⟨some 48, none, .fad 2 (.t 47)⟩,
 ⟨some 49, none, .ld false 1 (.t 48)⟩,
 ⟨some 50, none, .len (.t 49)⟩,
 ⟨some 51, none, .bin .gtr (.t 50) (.c (.int .i64 16))⟩] (some [1, 3, 4, 5, 6, 7, 51]))
 (.cond (.t 51) (.seq (.rg [⟨some 2, none, .mov (.c (.int .i64 5))⟩] (some [2]))
 (.ret)) (.skip)))
 (.seq (.rg [⟨some 52, none, .mov (.t 4)⟩,
 ⟨some 53, none, .mov (.t 52)⟩,
 ⟨some 54, (some (53, false)), .fad 0 (.t 1)⟩,
 ⟨some 55, (some (53, false)), .ld false 1 (.t 54)⟩,
 ⟨some 56, (some (53, false)), .mov (.t 7)⟩,
 ⟨some 57, (some (53, false)), .iad 3 (.t 55) (.t 56)⟩,
 ⟨some 58, (some (53, false)), .fad 1 (.t 57)⟩,
 ⟨some 59, (some (53, false)), .ld false 1 (.t 58)⟩,
 ⟨some 60, (some (53, false)), .len (.t 59)⟩,
 ⟨some 61, (some (53, false)), .bin .eql (.t 60) (.c (.int .i64 0))⟩,
 ⟨some 62, none, .pick (.t 53) (.c (.bool true)) (.t 61)⟩,
 ⟨some 4, none, .mov (.t 62)⟩] (some [1, 3, 4, 5, 6, 7]))
 (.seq (.rg [⟨some 8, none, .mov (.c (.int .i64 0))⟩] (some [1, 3, 4, 5, 6, 7, 8]))
 (.blk 2 (i_ref08_Check_l0))))))
 (.rg [⟨some 42, none, .mov (.t 7)⟩,
 ⟨some 43, none, .bin .add (.t 42) (.c (.int .i64 1))⟩,
 ⟨some 7, none, .mov (.t 43)⟩] (some [1, 3, 4, 5, 6, 7])))
def i_ref08_Check_l1 : IR := .loop b_ref08_Check_1
theorem r_ref08_Check_1 {C : Cx} {Y : Yl} {fr : Fr} {h : List Ob} : evw C Y i_ref08_Check_l1 fr h = nxt (evw C Y b_ref08_Check_1 fr h) fun fr h => evw C Y i_ref08_Check_l1 fr h := w_loop
def b_ref08_Check_2 : IR := .seq (.seq (.rg [⟨some 92, none, .mov (.t 9)⟩,
 ⟨some 93, none, .fad 1 (.t 1)⟩,
 ⟨some 94, none, .ld false 1 (.t 93)⟩,
 ⟨some 95, none, .len (.t 94)⟩,
 ⟨some 96, none, .bin .lss (.t 92) (.t 95)⟩] (some [1, 3, 4, 5, 9, 96]))
 (.cond (.t 96) (.skip) (.ext 4)))
 (.seq (.blk 5 (.rg [⟨some 99, none, .mov (.t 5)⟩,
 ⟨some 100, none, .mov (.t 99)⟩,
 ⟨some 101, (some (100, false)), .fad 1 (.t 1)⟩,
 ⟨some 102, (some (100, false)), .ld false 1 (.t 101)⟩,
 ⟨some 103, (some (100, false)), .mov (.t 9)⟩,
 ⟨some 104, (some (100, false)), .iad 6 (.t 102) (.t 103)⟩,
 ⟨some 105, (some (100, false)), .ld true 6 (.t 104)⟩,
 ⟨some 106, (some (100, false)), .mov (.t 3)⟩,
 ⟨some 107, (some (100, false)), .len (.t 106)⟩,
 ⟨some 108, (some (100, false)), .call n_ref08_Right [(.t 105), (.t 107)]⟩,
 ⟨some 109, (some (100, false)), .un .not (.t 108)⟩,
 ⟨some 110, none, .pick (.t 100) (.c (.bool true)) (.t 109)⟩,
 ⟨some 5, none, .mov (.t 110)⟩] (some [1, 3, 4, 5, 9])))
 (.rg [⟨some 97, none, .mov (.t 9)⟩,
 ⟨some 98, none, .bin .add (.t 97) (.c (.int .i64 1))⟩,
 ⟨some 9, none, .mov (.t 98)⟩] (some [1, 3, 4, 5, 9])))
def i_ref08_Check_l2 : IR := .loop b_ref08_Check_2
theorem r_ref08_Check_2 {C : Cx} {Y : Yl} {fr : Fr} {h : List Ob} : evw C Y i_ref08_Check_l2 fr h = nxt (evw C Y b_ref08_Check_2 fr h) fun fr h => evw C Y i_ref08_Check_l2 fr h := w_loop
def b_ref08_Check_3 : IR := .seq (.seq (.rg [⟨some 112, none, .mov (.t 10)⟩,
 ⟨some 113, none, .mov (.t 3)⟩,
 ⟨some 114, none, .len (.t 113)⟩,
 ⟨some 115, none, .bin .lss (.t 112) (.t 114)⟩] (some [3, 5, 10, 115]))
 (.cond (.t 115) (.skip) (.ext 6)))
 (.seq (.blk 7 (.seq (.rg [⟨some 118, none, .mov (.t 3)⟩,
 ⟨some 119, none, .mov (.t 10)⟩,
 ⟨some 120, none, .iad 2 (.t 118) (.t 119)⟩,
 ⟨some 121, none, .fad 0 (.t 120)⟩,
 ⟨some 122, none, .ld false 1 (.t 121)⟩,
 ⟨some 123, none, .call n_ref08_Name [(.t 122)]⟩,
 ⟨some 124, none, .un .not (.t 123)⟩] (some [3, 5, 10, 124]))
 (.cond (.t 124) (.seq (.rg [⟨some 2, none, .mov (.c (.int .i64 7))⟩] (some [2]))
 (.ret)) (.skip))))
 (.rg [⟨some 116, none, .mov (.t 10)⟩,
 ⟨some 117, none, .bin .add (.t 116) (.c (.int .i64 1))⟩,
 ⟨some 10, none, .mov (.t 117)⟩] (some [3, 5, 10])))
def i_ref08_Check_l3 : IR := .loop b_ref08_Check_3
def b_ref08_Check_4 : IR := .seq (.seq (.rg [⟨some 131, none, .mov (.t 12)⟩,
 ⟨some 132, none, .mov (.t 11)⟩,
 ⟨some 133, none, .bin .lss (.t 131) (.t 132)⟩] (some [3, 5, 11, 12, 133]))
 (.cond (.t 133) (.skip) (.ext 10)))
 (.seq (.blk 11 (.seq (.dq [(⟨some 136, none, .mov (.t 3)⟩, []),
 (⟨some 137, none, .mov (.t 11)⟩, []),
 (⟨some 138, none, .iad 2 (.t 136) (.t 137)⟩, [0, 1]),
 (⟨some 139, none, .fad 0 (.t 138)⟩, [0, 1, 2]),
 (⟨some 140, none, .ld false 1 (.t 139)⟩, [0, 1, 2, 3]),
 (⟨some 141, none, .mov (.t 3)⟩, []),
 (⟨some 142, none, .mov (.t 12)⟩, []),
 (⟨some 143, none, .iad 2 (.t 141) (.t 142)⟩, [5, 6]),
 (⟨some 144, none, .fad 0 (.t 143)⟩, [5, 6, 7]),
 (⟨some 145, none, .ld false 1 (.t 144)⟩, [5, 6, 7, 8]),
 (⟨some 146, none, .bin .eql (.t 140) (.t 145)⟩, [0, 1, 2, 3, 4, 5, 6, 7, 8, 9])] (some [3, 5, 11, 12, 146]))
 (.cond (.t 146) (.seq (.rg [⟨some 2, none, .mov (.c (.int .i64 8))⟩] (some [2]))
 (.ret)) (.skip))))
 (.rg [⟨some 134, none, .mov (.t 12)⟩,
 ⟨some 135, none, .bin .add (.t 134) (.c (.int .i64 1))⟩,
 ⟨some 12, none, .mov (.t 135)⟩] (some [3, 5, 11, 12])))
def i_ref08_Check_l4 : IR := .loop b_ref08_Check_4
def b_ref08_Check_5 : IR := .seq (.seq (.rg [⟨some 125, none, .mov (.t 11)⟩,
 ⟨some 126, none, .mov (.t 3)⟩,
 ⟨some 127, none, .len (.t 126)⟩,
 ⟨some 128, none, .bin .lss (.t 125) (.t 127)⟩] (some [3, 5, 11, 128]))
 (.cond (.t 128) (.skip) (.ext 8)))
 (.seq (.blk 9 (.seq (.rg [⟨some 12, none, .mov (.c (.int .i64 0))⟩] (some [3, 5, 11, 12]))
 (.blk 10 (i_ref08_Check_l4))))
 (.rg [⟨some 129, none, .mov (.t 11)⟩,
 ⟨some 130, none, .bin .add (.t 129) (.c (.int .i64 1))⟩,
 ⟨some 11, none, .mov (.t 130)⟩] (some [3, 5, 11])))
def i_ref08_Check_l5 : IR := .loop b_ref08_Check_5
theorem r_ref08_Check_5 {C : Cx} {Y : Yl} {fr : Fr} {h : List Ob} : evw C Y i_ref08_Check_l5 fr h = nxt (evw C Y b_ref08_Check_5 fr h) fun fr h => evw C Y i_ref08_Check_l5 fr h := w_loop
def b_ref08_Check_6 : IR := .seq (.seq (.rg [⟨some 147, none, .mov (.t 13)⟩,
 ⟨some 148, none, .mov (.t 3)⟩,
 ⟨some 149, none, .len (.t 148)⟩,
 ⟨some 150, none, .bin .lss (.t 147) (.t 149)⟩] (some [3, 5, 13, 150]))
 (.cond (.t 150) (.skip) (.ext 12)))
 (.seq (.blk 13 (.seq (.rg [⟨some 153, none, .mov (.t 3)⟩,
 ⟨some 154, none, .mov (.t 13)⟩,
 ⟨some 155, none, .iad 2 (.t 153) (.t 154)⟩,
 ⟨some 156, none, .fad 1 (.t 155)⟩,
 ⟨some 157, none, .ld false 1 (.t 156)⟩,
 ⟨some 158, none, .call n_ref03_Size [(.t 157)]⟩,
 ⟨some 159, none, .bin .lss (.t 158) (.c (.int .i64 1))⟩,
 ⟨some 160, none, .mov (.t 159)⟩,
 ⟨some 161, (some (160, false)), .mov (.t 3)⟩,
 ⟨some 162, (some (160, false)), .mov (.t 13)⟩,
 ⟨some 163, (some (160, false)), .iad 2 (.t 161) (.t 162)⟩,
 ⟨some 164, (some (160, false)), .fad 1 (.t 163)⟩,
 ⟨some 165, (some (160, false)), .ld false 1 (.t 164)⟩,
 ⟨some 166, (some (160, false)), .call n_ref03_Size [(.t 165)]⟩,
 ⟨some 167, (some (160, false)), .bin .gtr (.t 166) (.c (.int .i64 64))⟩,
 ⟨some 168, none, .pick (.t 160) (.c (.bool true)) (.t 167)⟩] (some [3, 5, 13, 168]))
 (.cond (.t 168) (.seq (.rg [⟨some 2, none, .mov (.c (.int .i64 1))⟩] (some [2]))
 (.ret)) (.skip))))
 (.rg [⟨some 151, none, .mov (.t 13)⟩,
 ⟨some 152, none, .bin .add (.t 151) (.c (.int .i64 1))⟩,
 ⟨some 13, none, .mov (.t 152)⟩] (some [3, 5, 13])))
def i_ref08_Check_l6 : IR := .loop b_ref08_Check_6
def i_ref08_Check : IR := .seq (.rg [⟨some 1, none, .box (.t 0)⟩,
 ⟨some 2, none, .mov (.c (.int .i64 0))⟩] (some [1]))
 (.seq (.rg [⟨some 14, none, .ld true 2 (.t 1)⟩,
 ⟨some 15, none, .call n_ref08_Vars [(.t 14)]⟩,
 ⟨some 3, none, .mov (.t 15)⟩] (some [1, 3]))
 (.seq (.seq (.rg [⟨some 16, none, .fad 0 (.t 1)⟩,
 ⟨some 17, none, .ld false 1 (.t 16)⟩,
 ⟨some 18, none, .len (.t 17)⟩,
 ⟨some 19, none, .bin .gtr (.t 18) (.c (.int .i64 8))⟩,
 ⟨some 20, none, .mov (.t 19)⟩,
 ⟨some 21, (some (20, false)), .mov (.t 3)⟩,
 ⟨some 22, (some (20, false)), .len (.t 21)⟩,
 ⟨some 23, (some (20, false)), .bin .gtr (.t 22) (.c (.int .i64 16))⟩,
 ⟨some 24, none, .pick (.t 20) (.c (.bool true)) (.t 23)⟩,
 ⟨some 25, none, .mov (.t 24)⟩,
 ⟨some 26, (some (25, false)), .fad 1 (.t 1)⟩,
 ⟨some 27, (some (25, false)), .ld false 1 (.t 26)⟩,
 ⟨some 28, (some (25, false)), .len (.t 27)⟩,
 ⟨some 29, (some (25, false)), .bin .gtr (.t 28) (.c (.int .i64 16))⟩,
 ⟨some 30, none, .pick (.t 25) (.c (.bool true)) (.t 29)⟩] (some [1, 3, 30]))
 (.cond (.t 30) (.seq (.rg [⟨some 2, none, .mov (.c (.int .i64 5))⟩] (some [2]))
 (.ret)) (.skip)))
 (.seq (.rg [⟨some 31, none, .fad 0 (.t 1)⟩,
 ⟨some 32, none, .ld false 1 (.t 31)⟩,
 ⟨some 33, none, .len (.t 32)⟩,
 ⟨some 34, none, .bin .eql (.t 33) (.c (.int .i64 0))⟩,
 ⟨some 4, none, .mov (.t 34)⟩] (some [1, 3, 4]))
 (.seq (.rg [⟨some 5, none, .mov (.c (.bool false))⟩] (some [1, 3, 4, 5]))
 (.seq (.rg [⟨some 35, none, .ld true 2 (.t 1)⟩,
 ⟨some 36, none, .call n_ref08_Ends [(.t 35)]⟩,
 ⟨some 6, none, .mov (.t 36)⟩] (some [1, 3, 4, 5, 6]))
 (.seq (.seq (.rg [⟨some 7, none, .mov (.c (.int .i64 0))⟩] (some [1, 3, 4, 5, 6, 7]))
 (.blk 0 (i_ref08_Check_l1)))
 (.seq (.seq (.rg [⟨some 9, none, .mov (.c (.int .i64 0))⟩] (some [1, 3, 4, 5, 9]))
 (.blk 4 (i_ref08_Check_l2)))
 (.seq (.seq (.rg [⟨some 111, none, .mov (.t 4)⟩] (some [3, 5, 111]))
 (.cond (.t 111) (.seq (.rg [⟨some 2, none, .mov (.c (.int .i64 2))⟩] (some [2]))
 (.ret)) (.skip)))
 (.seq (.seq (.rg [⟨some 10, none, .mov (.c (.int .i64 0))⟩] (some [3, 5, 10]))
 (.blk 6 (i_ref08_Check_l3)))
 (.seq (.seq (.rg [⟨some 11, none, .mov (.c (.int .i64 0))⟩] (some [3, 5, 11]))
 (.blk 8 (i_ref08_Check_l5)))
 (.seq (.seq (.rg [⟨some 13, none, .mov (.c (.int .i64 0))⟩] (some [3, 5, 13]))
 (.blk 12 (i_ref08_Check_l6)))
 (.seq (.seq (.rg [⟨some 169, none, .mov (.t 5)⟩] (some [169]))
 (.cond (.t 169) (.seq (.rg [⟨some 2, none, .mov (.c (.int .i64 12))⟩] (some [2]))
 (.ret)) (.skip)))
 (.seq (.rg [⟨some 2, none, .mov (.c (.int .i64 0))⟩] (some [2]))
 (.ret))))))))))))))
def F_ref08_Check : F := ⟨i_ref08_Check, [(2, none)], false⟩
def i_tree_Share : IR := .seq (.rg [⟨some 2, none, .mov (.c (.nsl 3))⟩] (some [0]))
 (.seq (.seq (.rg [⟨some 4, none, .mov (.t 0)⟩,
 ⟨some 5, none, .call n_tree_May [(.t 4)]⟩,
 ⟨some 6, none, .un .not (.t 5)⟩] (some [0, 6]))
 (.cond (.t 6) (.seq (.rg [⟨some 2, none, .mov (.c (.nsl 3))⟩] (some [2]))
 (.ret)) (.skip)))
 (.seq (.rg [⟨some 7, none, .op .mkm []⟩,
 ⟨some 8, none, .bld [.nsl 3, .nmp] [(1, 1, (.t 7))]⟩,
 ⟨some 9, none, .box (.t 8)⟩,
 ⟨some 3, none, .mov (.t 9)⟩] (some [0, 3]))
 (.seq (.rg [⟨some 10, none, .mov (.t 3)⟩,
 ⟨some 11, none, .mov (.t 0)⟩,
 ⟨some 12, none, .mov (.t 0)⟩,
 ⟨some 13, none, .len (.t 12)⟩,
 ⟨some 14, none, .bin .sub (.t 13) (.c (.int .i64 1))⟩,
 ⟨some 15, none, .mov (.t 0)⟩,
 ⟨some 16, none, .len (.t 15)⟩,
 ⟨some 17, none, .mks 8 (.int .i64 0) (.t 16) (.t 16)⟩,
 ⟨some 18, none, .call n_tree_sharer_walk [(.t 10), (.t 11), (.t 14), (.t 17)]⟩] (some [3]))
 (.seq (.rg [⟨some 19, none, .mov (.t 3)⟩,
 ⟨some 20, none, .nck (.t 19)⟩,
 ⟨some 21, none, .fad 0 (.t 20)⟩,
 ⟨some 22, none, .ld false 1 (.t 21)⟩,
 ⟨some 2, none, .mov (.t 22)⟩] (some [2]))
 (.ret)))))
def F_tree_Share : F := ⟨i_tree_Share, [(2, none)], false⟩
def i_law20_two : IR := .seq (.rg [⟨some 0, none, .new (.agg [.nsl 3, .nsl 6])⟩] (some [0]))
 (.seq (.rg [⟨some 1, none, .bld [.int .i64 0, .int .i64 0] [(0, 1, (.c (.int .i64 1))), (1, 1, (.c (.int .i64 2)))]⟩,
 ⟨some 2, none, .bsl (.agg [.int .i64 0, .int .i64 0]) 1 [(0, (.t 1))]⟩,
 ⟨some 3, none, .bld [.str [], .nsl 2] [(0, 1, (.c (.str [120]))), (1, 1, (.t 2))]⟩,
 ⟨some 4, none, .bsl (.agg [.str [], .nsl 2]) 1 [(0, (.t 3))]⟩,
 ⟨some 5, none, .bld [.bool false, .nsl 2, .nsl 6] [(1, 1, (.t 4))]⟩,
 ⟨some 6, none, .bsl (.agg [.bool false, .nsl 2, .nsl 6]) 1 [(0, (.t 5))]⟩,
 ⟨some 7, none, .bsl (.int .i64 0) 1 [(0, (.c (.int .i64 0)))]⟩,
 ⟨some 8, none, .bsl (.int .i64 0) 1 [(0, (.c (.int .i64 1)))]⟩,
 ⟨some 9, none, .bld [.int .i64 0, .nsl 1, .nsl 1, .int .i64 0, .int .i64 0, .nsl 1] [(0, 1, (.c (.int .i64 1))), (1, 1, (.t 7)), (2, 1, (.t 8)), (4, 1, (.c (.int .i64 2)))]⟩,
 ⟨some 10, none, .bsl (.agg [.int .i64 0, .nsl 1, .nsl 1, .int .i64 0, .int .i64 0, .nsl 1]) 1 [(0, (.t 9))]⟩,
 ⟨some 11, none, .bld [.nsl 3, .nsl 6] [(0, 1, (.t 6)), (1, 1, (.t 10))]⟩,
 ⟨none, none, .st 2 (.t 0) (.t 11)⟩] (some [0]))
 (.ret))
def F_law20_two : F := ⟨i_law20_two, [(0, some (true, 2))], true⟩
def b_law08_Large_0 : IR := .seq (.rg [⟨some 36, none, .bin .lss (.t 35) (.t 34)⟩] (some [17, 18, 19, 33, 34, 35, 36]))
 (.seq (.cond (.t 36) (.skip) (.ext 2))
 (.seq (.blk 3 (.seq (.rg [⟨some 37, none, .iad 2 (.t 33) (.t 35)⟩,
 ⟨some 38, none, .ld true 2 (.t 37)⟩,
 ⟨some 6, none, .new (.agg [.str [], .nsl 2])⟩,
 ⟨none, none, .st 2 (.t 6) (.t 38)⟩] (some [6, 17, 18, 19, 33, 34, 35]))
 (.seq (.rg [⟨some 39, none, .fad 0 (.t 6)⟩,
 ⟨some 40, none, .ld false 1 (.t 39)⟩,
 ⟨some 41, none, .slen (.t 40)⟩,
 ⟨some 42, none, .bin .gtr (.t 41) (.c (.int .i64 100))⟩,
 ⟨some 43, none, .mov (.t 42)⟩,
 ⟨some 44, (some (43, false)), .fad 1 (.t 6)⟩,
 ⟨some 45, (some (43, false)), .ld false 1 (.t 44)⟩,
 ⟨some 46, (some (43, false)), .len (.t 45)⟩,
 ⟨some 47, (some (43, false)), .bin .gtr (.t 46) (.c (.int .i64 150))⟩,
 ⟨some 48, none, .pick (.t 43) (.c (.bool true)) (.t 47)⟩] (some [17, 18, 19, 33, 34, 35, 48]))
 (.cond (.t 48) (.seq (.rg [⟨some 2, none, .mov (.c (.bool true))⟩] (some [2]))
 (.ret)) (.skip)))))
 (.rg [⟨some 49, none, .bin .add (.t 35) (.c (.int .i64 1))⟩,
 ⟨some 35, none, .mov (.t 49)⟩] (some [17, 18, 19, 33, 34, 35]))))
def i_law08_Large_l0 : IR := .loop b_law08_Large_0
theorem r_law08_Large_0 {C : Cx} {Y : Yl} {fr : Fr} {h : List Ob} : evw C Y i_law08_Large_l0 fr h = nxt (evw C Y b_law08_Large_0 fr h) fun fr h => evw C Y i_law08_Large_l0 fr h := w_loop
def b_law08_Large_1 : IR := .seq (.rg [⟨some 20, none, .bin .lss (.t 19) (.t 18)⟩] (some [17, 18, 19, 20]))
 (.seq (.cond (.t 20) (.skip) (.ext 0))
 (.seq (.blk 1 (.seq (.rg [⟨some 21, none, .iad 3 (.t 17) (.t 19)⟩,
 ⟨some 22, none, .ld true 3 (.t 21)⟩,
 ⟨some 4, none, .new (.agg [.bool false, .nsl 2, .nsl 6])⟩,
 ⟨none, none, .st 3 (.t 4) (.t 22)⟩] (some [4, 17, 18, 19]))
 (.seq (.seq (.rg [⟨some 23, none, .fad 1 (.t 4)⟩,
 ⟨some 24, none, .ld false 1 (.t 23)⟩,
 ⟨some 25, none, .len (.t 24)⟩,
 ⟨some 26, none, .bin .gtr (.t 25) (.c (.int .i64 30))⟩,
 ⟨some 27, none, .mov (.t 26)⟩,
 ⟨some 28, (some (27, false)), .fad 2 (.t 4)⟩,
 ⟨some 29, (some (27, false)), .ld false 1 (.t 28)⟩,
 ⟨some 30, (some (27, false)), .call n_law08_cons [(.t 29)]⟩,
 ⟨some 31, none, .pick (.t 27) (.c (.bool true)) (.t 30)⟩] (some [4, 17, 18, 19, 31]))
 (.cond (.t 31) (.seq (.rg [⟨some 2, none, .mov (.c (.bool true))⟩] (some [2]))
 (.ret)) (.skip)))
 (.seq (.rg [⟨some 32, none, .fad 1 (.t 4)⟩,
 ⟨some 33, none, .ld false 1 (.t 32)⟩,
 ⟨some 34, none, .len (.t 33)⟩,
 ⟨some 35, none, .mov (.c (.int .i64 0))⟩] (some [17, 18, 19, 33, 34, 35]))
 (.blk 2 (i_law08_Large_l0))))))
 (.rg [⟨some 50, none, .bin .add (.t 19) (.c (.int .i64 1))⟩,
 ⟨some 19, none, .mov (.t 50)⟩] (some [17, 18, 19]))))
def i_law08_Large_l1 : IR := .loop b_law08_Large_1
theorem r_law08_Large_1 {C : Cx} {Y : Yl} {fr : Fr} {h : List Ob} : evw C Y i_law08_Large_l1 fr h = nxt (evw C Y b_law08_Large_1 fr h) fun fr h => evw C Y i_law08_Large_l1 fr h := w_loop
def i_law08_Large : IR := .seq (.rg [⟨some 1, none, .box (.t 0)⟩,
 ⟨some 2, none, .mov (.c (.bool false))⟩] (some [1]))
 (.seq (.seq (.rg [⟨some 7, none, .fad 0 (.t 1)⟩,
 ⟨some 8, none, .ld false 1 (.t 7)⟩,
 ⟨some 9, none, .len (.t 8)⟩,
 ⟨some 10, none, .bin .gtr (.t 9) (.c (.int .i64 30))⟩,
 ⟨some 11, none, .mov (.t 10)⟩,
 ⟨some 12, (some (11, false)), .fad 1 (.t 1)⟩,
 ⟨some 13, (some (11, false)), .ld false 1 (.t 12)⟩,
 ⟨some 14, (some (11, false)), .call n_law08_cons [(.t 13)]⟩,
 ⟨some 15, none, .pick (.t 11) (.c (.bool true)) (.t 14)⟩] (some [1, 15]))
 (.cond (.t 15) (.seq (.rg [⟨some 2, none, .mov (.c (.bool true))⟩] (some [2]))
 (.ret)) (.skip)))
 (.seq (.seq (.rg [⟨some 16, none, .fad 0 (.t 1)⟩,
 ⟨some 17, none, .ld false 1 (.t 16)⟩,
 ⟨some 18, none, .len (.t 17)⟩,
 ⟨some 19, none, .mov (.c (.int .i64 0))⟩] (some [17, 18, 19]))
 (.blk 0 (i_law08_Large_l1)))
 (.seq (.rg [⟨some 2, none, .mov (.c (.bool false))⟩] (some [2]))
 (.ret))))
def F_law08_Large : F := ⟨i_law08_Large, [(2, none)], false⟩
def b_ref20_Plays_0 : IR := .seq (.seq (.rg [⟨some 8, none, .mov (.t 4)⟩,
 ⟨some 9, none, .ld true 2 (.t 1)⟩,
 ⟨some 10, none, .call n_ref08_Vars [(.t 9)]⟩,
 ⟨some 11, none, .len (.t 10)⟩,
 ⟨some 12, none, .bin .lss (.t 8) (.t 11)⟩] (some [1, 3, 4, 12]))
 (.cond (.t 12) (.skip) (.ext 0)))
 (.seq (.blk 1 (.seq (.rg [⟨some 15, none, .mov (.t 3)⟩,
 ⟨some 16, none, .ld true 2 (.t 1)⟩,
 ⟨some 17, none, .call n_ref08_Vars [(.t 16)]⟩,
 ⟨some 18, none, .mov (.t 4)⟩,
 ⟨some 19, none, .iad 2 (.t 17) (.t 18)⟩,
 ⟨some 20, none, .fad 1 (.t 19)⟩,
 ⟨some 21, none, .ld false 1 (.t 20)⟩,
 ⟨some 22, none, .call n_ref03_Size [(.t 21)]⟩,
 ⟨some 23, none, .bin .mul (.t 15) (.t 22)⟩,
 ⟨some 3, none, .mov (.t 23)⟩] (some [1, 3, 4]))
 (.seq (.rg [⟨some 24, none, .mov (.t 3)⟩,
 ⟨some 25, none, .bin .gtr (.t 24) (.c (.int .i64 1000000))⟩] (some [1, 3, 4, 25]))
 (.cond (.t 25) (.seq (.rg [⟨some 2, none, .mov (.c (.int .i64 1000000))⟩] (some [2]))
 (.ret)) (.skip)))))
 (.rg [⟨some 13, none, .mov (.t 4)⟩,
 ⟨some 14, none, .bin .add (.t 13) (.c (.int .i64 1))⟩,
 ⟨some 4, none, .mov (.t 14)⟩] (some [1, 3, 4])))
def i_ref20_Plays_l0 : IR := .loop b_ref20_Plays_0
theorem r_ref20_Plays_0 {C : Cx} {Y : Yl} {fr : Fr} {h : List Ob} : evw C Y i_ref20_Plays_l0 fr h = nxt (evw C Y b_ref20_Plays_0 fr h) fun fr h => evw C Y i_ref20_Plays_l0 fr h := w_loop
def i_ref20_Plays : IR := .seq (.rg [⟨some 1, none, .box (.t 0)⟩,
 ⟨some 2, none, .mov (.c (.int .i64 0))⟩] (some [1]))
 (.seq (.seq (.rg [⟨some 5, none, .ld true 2 (.t 1)⟩,
 ⟨some 6, none, .call n_ref08_Check [(.t 5)]⟩,
 ⟨some 7, none, .bin .neq (.t 6) (.c (.int .i64 0))⟩] (some [1, 7]))
 (.cond (.t 7) (.seq (.rg [⟨some 2, none, .mov (.c (.int .i64 0))⟩] (some [2]))
 (.ret)) (.skip)))
 (.seq (.rg [⟨some 3, none, .mov (.c (.int .i64 1))⟩] (some [1, 3]))
 (.seq (.seq (.rg [⟨some 4, none, .mov (.c (.int .i64 0))⟩] (some [1, 3, 4]))
 (.blk 0 (i_ref20_Plays_l0)))
 (.seq (.rg [⟨some 26, none, .mov (.t 3)⟩,
 ⟨some 2, none, .mov (.t 26)⟩] (some [2]))
 (.ret)))))
def F_ref20_Plays : F := ⟨i_ref20_Plays, [(2, none)], false⟩
def b_model_Check_0 : IR := .seq (.rg [⟨some 24, none, .bin .lss (.t 23) (.t 22)⟩] (some [1, 3, 21, 22, 23, 24]))
 (.seq (.cond (.t 24) (.skip) (.ext 0))
 (.seq (.blk 1 (.seq (.rg [⟨some 25, none, .mov (.t 23)⟩,
 ⟨some 26, none, .iad 2 (.t 21) (.t 23)⟩,
 ⟨some 27, none, .ld true 2 (.t 26)⟩,
 ⟨some 5, none, .new (.agg [.str [], .nsl 2])⟩,
 ⟨some 4, none, .mov (.t 25)⟩,
 ⟨none, none, .st 2 (.t 5) (.t 27)⟩] (some [1, 3, 4, 5, 21, 22, 23]))
 (.seq (.rg [⟨some 28, none, .mov (.t 3)⟩,
 ⟨some 29, none, .mov (.t 4)⟩,
 ⟨some 30, none, .sll 2 (.t 28) none (some (.t 29)) none⟩,
 ⟨some 31, none, .mkf (.func n_model_Check_3) [] [(.t 5)]⟩,
 ⟨some 32, none, .call n_slices_ContainsFunc_sapi_Decl_api_Decl [(.t 30), (.t 31)]⟩] (some [1, 3, 21, 22, 23, 32]))
 (.cond (.t 32) (.seq (.rg [⟨some 2, none, .mov (.c (.int .i64 8))⟩] (some [2]))
 (.ret)) (.skip)))))
 (.rg [⟨some 33, none, .bin .add (.t 23) (.c (.int .i64 1))⟩,
 ⟨some 23, none, .mov (.t 33)⟩] (some [1, 3, 21, 22, 23]))))
def i_model_Check_l0 : IR := .loop b_model_Check_0
theorem r_model_Check_0 {C : Cx} {Y : Yl} {fr : Fr} {h : List Ob} : evw C Y i_model_Check_l0 fr h = nxt (evw C Y b_model_Check_0 fr h) fun fr h => evw C Y i_model_Check_l0 fr h := w_loop
def i_model_Check : IR := .seq (.rg [⟨some 1, none, .box (.t 0)⟩,
 ⟨some 2, none, .mov (.c (.int .i64 0))⟩] (some [1]))
 (.seq (.seq (.rg [⟨some 6, none, .ld true 2 (.t 1)⟩,
 ⟨some 7, none, .call n_model_big [(.t 6)]⟩] (some [1, 7]))
 (.cond (.t 7) (.seq (.rg [⟨some 2, none, .mov (.c (.int .i64 5))⟩] (some [2]))
 (.ret)) (.skip)))
 (.seq (.seq (.rg [⟨some 8, none, .fad 0 (.t 1)⟩,
 ⟨some 9, none, .ld false 1 (.t 8)⟩,
 ⟨some 10, none, .len (.t 9)⟩,
 ⟨some 11, none, .bin .eql (.t 10) (.c (.int .i64 0))⟩,
 ⟨some 12, none, .mov (.t 11)⟩,
 ⟨some 13, (some (12, false)), .fad 0 (.t 1)⟩,
 ⟨some 14, (some (12, false)), .ld false 1 (.t 13)⟩,
 ⟨some 15, (some (12, false)), .call n_slices_ContainsFunc_sapi_Block_api_Block [(.t 14), (.c (.fn (.func n_model_Check_1) [] []))]⟩,
 ⟨some 16, none, .pick (.t 12) (.c (.bool true)) (.t 15)⟩] (some [1, 16]))
 (.cond (.t 16) (.seq (.rg [⟨some 2, none, .mov (.c (.int .i64 2))⟩] (some [2]))
 (.ret)) (.skip)))
 (.seq (.rg [⟨some 17, none, .ld true 2 (.t 1)⟩,
 ⟨some 18, none, .call n_model_Vars [(.t 17)]⟩,
 ⟨some 3, none, .mov (.t 18)⟩] (some [1, 3]))
 (.seq (.seq (.rg [⟨some 19, none, .mov (.t 3)⟩,
 ⟨some 20, none, .call n_slices_ContainsFunc_sapi_Decl_api_Decl [(.t 19), (.c (.fn (.func n_model_Check_2) [] []))]⟩] (some [1, 3, 20]))
 (.cond (.t 20) (.seq (.rg [⟨some 2, none, .mov (.c (.int .i64 7))⟩] (some [2]))
 (.ret)) (.skip)))
 (.seq (.seq (.rg [⟨some 21, none, .mov (.t 3)⟩,
 ⟨some 22, none, .len (.t 21)⟩,
 ⟨some 23, none, .mov (.c (.int .i64 0))⟩] (some [1, 3, 21, 22, 23]))
 (.blk 0 (i_model_Check_l0)))
 (.seq (.seq (.rg [⟨some 34, none, .mov (.t 3)⟩,
 ⟨some 35, none, .call n_slices_ContainsFunc_sapi_Decl_api_Decl [(.t 34), (.c (.fn (.func n_model_Check_4) [] []))]⟩] (some [1, 35]))
 (.cond (.t 35) (.seq (.rg [⟨some 2, none, .mov (.c (.int .i64 1))⟩] (some [2]))
 (.ret)) (.skip)))
 (.seq (.seq (.rg [⟨some 36, none, .ld true 2 (.t 1)⟩,
 ⟨some 37, none, .call n_model_wrong [(.t 36)]⟩] (some [37]))
 (.cond (.t 37) (.seq (.rg [⟨some 2, none, .mov (.c (.int .i64 12))⟩] (some [2]))
 (.ret)) (.skip)))
 (.seq (.rg [⟨some 2, none, .mov (.c (.int .i64 0))⟩] (some [2]))
 (.ret)))))))))
def F_model_Check : F := ⟨i_model_Check, [(2, none)], false⟩
def i_play_lay : IR := .seq (.rg [⟨some 1, none, .box (.t 0)⟩,
 ⟨some 2, none, .mov (.c (.nilp))⟩] (some [1]))
 (.seq (.dq [(⟨some 3, none, .ld true 2 (.t 1)⟩, []),
 (⟨some 4, none, .ld true 2 (.t 1)⟩, []),
 (⟨some 5, none, .call n_model_Vars [(.t 4)]⟩, [1]),
 (⟨some 6, none, .ld true 2 (.t 1)⟩, []),
 (⟨some 7, none, .call n_model_Ends [(.t 6)]⟩, [1, 2, 3]),
 (⟨some 8, none, .bld [.nsl 3, .nsl 6, .nsl 2, .nsl 1] [(0, 2, (.t 3)), (2, 1, (.t 5)), (3, 1, (.t 7))]⟩, [0, 1, 2, 3, 4]),
 (⟨some 9, none, .box (.t 8)⟩, [0, 1, 2, 3, 4, 5]),
 (⟨some 2, none, .mov (.t 9)⟩, [0, 1, 2, 3, 4, 5, 6])] (some [2]))
 (.ret))
def F_play_lay : F := ⟨i_play_lay, [(2, none)], true⟩
def i_spans_Has : IR := .seq (.rg [⟨some 4, none, .mov (.c (.bool false))⟩] (some [0, 1]))
 (.seq (.rg [⟨some 5, none, .mov (.t 0)⟩,
 ⟨some 6, none, .mov (.t 1)⟩,
 ⟨some 7, none, .call n_spans_Place [(.t 5), (.t 6)]⟩,
 ⟨some 8, none, .bin .geq (.t 7) (.c (.int .i64 0))⟩,
 ⟨some 4, none, .mov (.t 8)⟩] (some [4]))
 (.ret))
def F_spans_Has : F := ⟨i_spans_Has, [(4, none)], false⟩
def i_play_table_over : IR := .seq (.rg [⟨some 4, none, .mov (.c (.bool false))⟩,
 ⟨some 5, none, .mov (.c (.bool false))⟩] (some [0, 1]))
 (.seq (.seq (.rg [⟨some 8, none, .mov (.t 0)⟩,
 ⟨some 9, none, .nck (.t 8)⟩,
 ⟨some 10, none, .fad 3 (.t 9)⟩,
 ⟨some 11, none, .ld false 1 (.t 10)⟩,
 ⟨some 12, none, .mov (.t 1)⟩,
 ⟨some 13, none, .len (.t 12)⟩,
 ⟨some 14, none, .call n_slices_Index_sint_int [(.t 11), (.t 13)]⟩,
 ⟨some 6, none, .mov (.t 14)⟩] (some [0, 1, 6]))
 (.seq (.rg [⟨some 15, none, .mov (.t 6)⟩,
 ⟨some 16, none, .bin .geq (.t 15) (.c (.int .i64 0))⟩] (some [0, 1, 6, 16]))
 (.cond (.t 16) (.seq (.rg [⟨some 17, none, .mov (.t 0)⟩,
 ⟨some 18, none, .nck (.t 17)⟩,
 ⟨some 19, none, .fad 0 (.t 18)⟩,
 ⟨some 20, none, .fad 0 (.t 19)⟩,
 ⟨some 21, none, .ld false 1 (.t 20)⟩,
 ⟨some 22, none, .mov (.t 6)⟩,
 ⟨some 23, none, .iad 3 (.t 21) (.t 22)⟩,
 ⟨some 24, none, .ld true 3 (.t 23)⟩,
 ⟨some 7, none, .new (.agg [.bool false, .nsl 2, .nsl 6])⟩,
 ⟨none, none, .st 3 (.t 7) (.t 24)⟩] (some [0, 1, 7]))
 (.seq (.rg [⟨some 25, none, .fad 2 (.t 7)⟩,
 ⟨some 26, none, .ld false 1 (.t 25)⟩,
 ⟨some 27, none, .mov (.t 1)⟩,
 ⟨some 28, none, .call n_ground_All [(.t 26), (.t 27)]⟩,
 ⟨some 29, none, .un .not (.t 28)⟩] (some [0, 1, 7, 29]))
 (.cond (.t 29) (.seq (.dq [(⟨some 30, none, .fad 0 (.t 7)⟩, []),
 (⟨some 31, none, .ld false 1 (.t 30)⟩, [0]),
 (⟨some 4, none, .mov (.c (.bool true))⟩, []),
 (⟨some 5, none, .mov (.t 31)⟩, [0, 1, 2])] (some [4, 5]))
 (.ret)) (.skip)))) (.skip))))
 (.seq (.seq (.rg [⟨some 32, none, .mov (.t 1)⟩,
 ⟨some 33, none, .len (.t 32)⟩,
 ⟨some 34, none, .mov (.t 0)⟩,
 ⟨some 35, none, .nck (.t 34)⟩,
 ⟨some 36, none, .fad 2 (.t 35)⟩,
 ⟨some 37, none, .ld false 1 (.t 36)⟩,
 ⟨some 38, none, .len (.t 37)⟩,
 ⟨some 39, none, .bin .eql (.t 33) (.t 38)⟩] (some [0, 1, 39]))
 (.cond (.t 39) (.seq (.rg [⟨some 40, none, .mov (.t 0)⟩,
 ⟨some 41, none, .nck (.t 40)⟩,
 ⟨some 42, none, .fad 0 (.t 41)⟩,
 ⟨some 43, none, .fad 1 (.t 42)⟩,
 ⟨some 44, none, .ld false 1 (.t 43)⟩,
 ⟨some 45, none, .mov (.t 1)⟩,
 ⟨some 46, none, .call n_ground_All [(.t 44), (.t 45)]⟩,
 ⟨some 4, none, .mov (.c (.bool true))⟩,
 ⟨some 5, none, .mov (.t 46)⟩] (some [4, 5]))
 (.ret)) (.skip)))
 (.seq (.rg [⟨some 4, none, .mov (.c (.bool false))⟩,
 ⟨some 5, none, .mov (.c (.bool false))⟩] (some [4, 5]))
 (.ret))))
def F_play_table_over : F := ⟨i_play_table_over, [(4, none), (5, none)], false⟩
def b_ref08_Vars_0 : IR := .seq (.seq (.rg [⟨some 6, none, .mov (.t 4)⟩,
 ⟨some 7, none, .fad 0 (.t 1)⟩,
 ⟨some 8, none, .ld false 1 (.t 7)⟩,
 ⟨some 9, none, .len (.t 8)⟩,
 ⟨some 10, none, .bin .lss (.t 6) (.t 9)⟩] (some [1, 3, 4, 10]))
 (.cond (.t 10) (.skip) (.ext 0)))
 (.seq (.blk 1 (.rg [⟨some 13, none, .mov (.t 3)⟩,
 ⟨some 14, none, .fad 0 (.t 1)⟩,
 ⟨some 15, none, .ld false 1 (.t 14)⟩,
 ⟨some 16, none, .mov (.t 4)⟩,
 ⟨some 17, none, .iad 3 (.t 15) (.t 16)⟩,
 ⟨some 18, none, .fad 1 (.t 17)⟩,
 ⟨some 19, none, .ld false 1 (.t 18)⟩,
 ⟨some 20, none, .app 2 40 (.t 13) (.t 19)⟩,
 ⟨some 3, none, .mov (.t 20)⟩] (some [1, 3, 4])))
 (.rg [⟨some 11, none, .mov (.t 4)⟩,
 ⟨some 12, none, .bin .add (.t 11) (.c (.int .i64 1))⟩,
 ⟨some 4, none, .mov (.t 12)⟩] (some [1, 3, 4])))
def i_ref08_Vars_l0 : IR := .loop b_ref08_Vars_0
theorem r_ref08_Vars_0 {C : Cx} {Y : Yl} {fr : Fr} {h : List Ob} : evw C Y i_ref08_Vars_l0 fr h = nxt (evw C Y b_ref08_Vars_0 fr h) fun fr h => evw C Y i_ref08_Vars_l0 fr h := w_loop
def i_ref08_Vars : IR := .seq (.rg [⟨some 1, none, .box (.t 0)⟩,
 ⟨some 2, none, .mov (.c (.nsl 2))⟩] (some [1]))
 (.seq (.rg [⟨some 5, none, .bsl (.agg [.str [], .nsl 2]) 0 []⟩,
 ⟨some 3, none, .mov (.t 5)⟩] (some [1, 3]))
 (.seq (.seq (.rg [⟨some 4, none, .mov (.c (.int .i64 0))⟩] (some [1, 3, 4]))
 (.blk 0 (i_ref08_Vars_l0)))
 (.seq (.rg [⟨some 21, none, .mov (.t 3)⟩,
 ⟨some 2, none, .mov (.t 21)⟩] (some [2]))
 (.ret))))
def F_ref08_Vars : F := ⟨i_ref08_Vars, [(2, none)], false⟩
def b_ref03_In_0 : IR := .seq (.seq (.rg [⟨some 6, none, .mov (.t 5)⟩,
 ⟨some 7, none, .mov (.t 0)⟩,
 ⟨some 8, none, .len (.t 7)⟩,
 ⟨some 9, none, .bin .lss (.t 6) (.t 8)⟩] (some [0, 1, 5, 9]))
 (.cond (.t 9) (.skip) (.ext 0)))
 (.seq (.blk 1 (.seq (.rg [⟨some 12, none, .mov (.t 1)⟩,
 ⟨some 13, none, .mov (.t 0)⟩,
 ⟨some 14, none, .mov (.t 5)⟩,
 ⟨some 15, none, .iad 2 (.t 13) (.t 14)⟩,
 ⟨some 16, none, .fad 0 (.t 15)⟩,
 ⟨some 17, none, .ld false 1 (.t 16)⟩,
 ⟨some 18, none, .bin .geq (.t 12) (.t 17)⟩,
 ⟨some 19, none, .mov (.t 18)⟩,
 ⟨some 20, (some (19, true)), .mov (.t 1)⟩,
 ⟨some 21, (some (19, true)), .mov (.t 0)⟩,
 ⟨some 22, (some (19, true)), .mov (.t 5)⟩,
 ⟨some 23, (some (19, true)), .iad 2 (.t 21) (.t 22)⟩,
 ⟨some 24, (some (19, true)), .fad 1 (.t 23)⟩,
 ⟨some 25, (some (19, true)), .ld false 1 (.t 24)⟩,
 ⟨some 26, (some (19, true)), .bin .leq (.t 20) (.t 25)⟩,
 ⟨some 27, none, .pick (.t 19) (.t 26) (.c (.bool false))⟩] (some [0, 1, 5, 27]))
 (.cond (.t 27) (.seq (.rg [⟨some 4, none, .mov (.c (.bool true))⟩] (some [4]))
 (.ret)) (.skip))))
 (.rg [⟨some 10, none, .mov (.t 5)⟩,
 ⟨some 11, none, .bin .add (.t 10) (.c (.int .i64 1))⟩,
 ⟨some 5, none, .mov (.t 11)⟩] (some [0, 1, 5])))
def i_ref03_In_l0 : IR := .loop b_ref03_In_0
def i_ref03_In : IR := .seq (.rg [⟨some 4, none, .mov (.c (.bool false))⟩] (some [0, 1]))
 (.seq (.seq (.rg [⟨some 5, none, .mov (.c (.int .i64 0))⟩] (some [0, 1, 5]))
 (.blk 0 (i_ref03_In_l0)))
 (.seq (.rg [⟨some 4, none, .mov (.c (.bool false))⟩] (some [4]))
 (.ret)))
def F_ref03_In : F := ⟨i_ref03_In, [(4, none)], false⟩
def b_ref08_Ends_0 : IR := .seq (.seq (.rg [⟨some 7, none, .mov (.t 5)⟩,
 ⟨some 8, none, .fad 0 (.t 1)⟩,
 ⟨some 9, none, .ld false 1 (.t 8)⟩,
 ⟨some 10, none, .len (.t 9)⟩,
 ⟨some 11, none, .bin .lss (.t 7) (.t 10)⟩] (some [1, 3, 4, 5, 11]))
 (.cond (.t 11) (.skip) (.ext 0)))
 (.seq (.blk 1 (.seq (.rg [⟨some 14, none, .mov (.t 4)⟩,
 ⟨some 15, none, .fad 0 (.t 1)⟩,
 ⟨some 16, none, .ld false 1 (.t 15)⟩,
 ⟨some 17, none, .mov (.t 5)⟩,
 ⟨some 18, none, .iad 3 (.t 16) (.t 17)⟩,
 ⟨some 19, none, .fad 1 (.t 18)⟩,
 ⟨some 20, none, .ld false 1 (.t 19)⟩,
 ⟨some 21, none, .len (.t 20)⟩,
 ⟨some 22, none, .bin .add (.t 14) (.t 21)⟩,
 ⟨some 4, none, .mov (.t 22)⟩] (some [1, 3, 4, 5]))
 (.rg [⟨some 23, none, .mov (.t 3)⟩,
 ⟨some 24, none, .mov (.t 4)⟩,
 ⟨some 25, none, .bsf (.int .i64 0) 1 [(0, (.t 24))]⟩,
 ⟨some 26, none, .app 1 8 (.t 23) (.t 25)⟩,
 ⟨some 3, none, .mov (.t 26)⟩] (some [1, 3, 4, 5]))))
 (.rg [⟨some 12, none, .mov (.t 5)⟩,
 ⟨some 13, none, .bin .add (.t 12) (.c (.int .i64 1))⟩,
 ⟨some 5, none, .mov (.t 13)⟩] (some [1, 3, 4, 5])))
def i_ref08_Ends_l0 : IR := .loop b_ref08_Ends_0
theorem r_ref08_Ends_0 {C : Cx} {Y : Yl} {fr : Fr} {h : List Ob} : evw C Y i_ref08_Ends_l0 fr h = nxt (evw C Y b_ref08_Ends_0 fr h) fun fr h => evw C Y i_ref08_Ends_l0 fr h := w_loop
def i_ref08_Ends : IR := .seq (.rg [⟨some 1, none, .box (.t 0)⟩,
 ⟨some 2, none, .mov (.c (.nsl 1))⟩] (some [1]))
 (.seq (.rg [⟨some 6, none, .bsl (.int .i64 0) 0 []⟩,
 ⟨some 3, none, .mov (.t 6)⟩] (some [1, 3]))
 (.seq (.rg [⟨some 4, none, .mov (.c (.int .i64 0))⟩] (some [1, 3, 4]))
 (.seq (.seq (.rg [⟨some 5, none, .mov (.c (.int .i64 0))⟩] (some [1, 3, 4, 5]))
 (.blk 0 (i_ref08_Ends_l0)))
 (.seq (.rg [⟨some 27, none, .mov (.t 3)⟩,
 ⟨some 2, none, .mov (.t 27)⟩] (some [2]))
 (.ret)))))
def F_ref08_Ends : F := ⟨i_ref08_Ends, [(2, none)], false⟩
def b_ref11_All_0 : IR := .seq (.seq (.rg [⟨some 10, none, .mov (.t 5)⟩,
 ⟨some 11, none, .mov (.t 0)⟩,
 ⟨some 12, none, .len (.t 11)⟩,
 ⟨some 13, none, .bin .lss (.t 10) (.t 12)⟩] (some [0, 1, 5, 13]))
 (.cond (.t 13) (.skip) (.ext 0)))
 (.seq (.blk 1 (.seq (.rg [⟨some 16, none, .mov (.t 0)⟩,
 ⟨some 17, none, .mov (.t 5)⟩,
 ⟨some 18, none, .iad 6 (.t 16) (.t 17)⟩,
 ⟨some 19, none, .ld true 6 (.t 18)⟩,
 ⟨some 20, none, .mov (.t 1)⟩,
 ⟨some 21, none, .call n_ref11_Holds [(.t 19), (.t 20)]⟩,
 ⟨some 22, none, .un .not (.t 21)⟩] (some [0, 1, 5, 22]))
 (.cond (.t 22) (.seq (.rg [⟨some 4, none, .mov (.c (.bool false))⟩] (some [4]))
 (.ret)) (.skip))))
 (.rg [⟨some 14, none, .mov (.t 5)⟩,
 ⟨some 15, none, .bin .add (.t 14) (.c (.int .i64 1))⟩,
 ⟨some 5, none, .mov (.t 15)⟩] (some [0, 1, 5])))
def i_ref11_All_l0 : IR := .loop b_ref11_All_0
def i_ref11_All : IR := .seq (.rg [⟨some 4, none, .mov (.c (.bool false))⟩] (some [0, 1]))
 (.seq (.seq (.rg [⟨some 6, none, .mov (.t 0)⟩,
 ⟨some 7, none, .mov (.t 1)⟩,
 ⟨some 8, none, .call n_ref11_Right [(.t 6), (.t 7)]⟩,
 ⟨some 9, none, .un .not (.t 8)⟩] (some [0, 1, 9]))
 (.cond (.t 9) (.seq (.rg [⟨some 4, none, .mov (.c (.bool false))⟩] (some [4]))
 (.ret)) (.skip)))
 (.seq (.seq (.rg [⟨some 5, none, .mov (.c (.int .i64 0))⟩] (some [0, 1, 5]))
 (.blk 0 (i_ref11_All_l0)))
 (.seq (.rg [⟨some 4, none, .mov (.c (.bool true))⟩] (some [4]))
 (.ret))))
def F_ref11_All : F := ⟨i_ref11_All, [(4, none)], false⟩
def b_tree_May_0 : IR := .seq (.rg [⟨some 16, none, .bin .lss (.t 15) (.t 14)⟩] (some [13, 14, 15, 16]))
 (.seq (.cond (.t 16) (.skip) (.ext 0))
 (.seq (.blk 1 (.seq (.rg [⟨some 17, none, .mov (.t 15)⟩,
 ⟨some 18, none, .iad 3 (.t 13) (.t 15)⟩,
 ⟨some 19, none, .ld true 3 (.t 18)⟩,
 ⟨some 3, none, .new (.int .i64 0)⟩,
 ⟨some 4, none, .new (.agg [.int .i64 0, .int .i64 0, .nsl 1])⟩,
 ⟨none, none, .st 1 (.t 3) (.t 17)⟩,
 ⟨none, none, .st 3 (.t 4) (.t 19)⟩] (some [3, 4, 13, 14, 15]))
 (.seq (.rg [⟨some 20, none, .fad 0 (.t 4)⟩,
 ⟨some 21, none, .ld false 1 (.t 20)⟩,
 ⟨some 22, none, .fad 1 (.t 4)⟩,
 ⟨some 23, none, .ld false 1 (.t 22)⟩,
 ⟨some 24, none, .fad 2 (.t 4)⟩,
 ⟨some 25, none, .ld false 1 (.t 24)⟩,
 ⟨some 26, none, .len (.t 25)⟩,
 ⟨some 27, none, .call n_tree_fits [(.t 21), (.t 23), (.t 26)]⟩,
 ⟨some 28, none, .un .not (.t 27)⟩,
 ⟨some 29, none, .mov (.t 28)⟩,
 ⟨some 30, (some (29, false)), .fad 2 (.t 4)⟩,
 ⟨some 31, (some (29, false)), .ld false 1 (.t 30)⟩,
 ⟨some 32, (some (29, false)), .mkf (.func n_tree_May_1) [] [(.t 3)]⟩,
 ⟨some 33, (some (29, false)), .call n_slices_ContainsFunc_sint_int [(.t 31), (.t 32)]⟩,
 ⟨some 34, none, .pick (.t 29) (.c (.bool true)) (.t 33)⟩] (some [13, 14, 15, 34]))
 (.cond (.t 34) (.seq (.rg [⟨some 2, none, .mov (.c (.bool false))⟩] (some [2]))
 (.ret)) (.skip)))))
 (.rg [⟨some 35, none, .bin .add (.t 15) (.c (.int .i64 1))⟩,
 ⟨some 15, none, .mov (.t 35)⟩] (some [13, 14, 15]))))
def i_tree_May_l0 : IR := .loop b_tree_May_0
theorem r_tree_May_0 {C : Cx} {Y : Yl} {fr : Fr} {h : List Ob} : evw C Y i_tree_May_l0 fr h = nxt (evw C Y b_tree_May_0 fr h) fun fr h => evw C Y i_tree_May_l0 fr h := w_loop
def i_tree_May : IR := .seq (.rg [⟨some 2, none, .mov (.c (.bool false))⟩] (some [0]))
 (.seq (.seq (.rg [⟨some 5, none, .mov (.t 0)⟩,
 ⟨some 6, none, .len (.t 5)⟩,
 ⟨some 7, none, .bin .eql (.t 6) (.c (.int .i64 0))⟩,
 ⟨some 8, none, .mov (.t 7)⟩,
 ⟨some 9, (some (8, false)), .mov (.t 0)⟩,
 ⟨some 10, (some (8, false)), .len (.t 9)⟩,
 ⟨some 11, (some (8, false)), .bin .gtr (.t 10) (.c (.int .i64 100000))⟩,
 ⟨some 12, none, .pick (.t 8) (.c (.bool true)) (.t 11)⟩] (some [0, 12]))
 (.cond (.t 12) (.seq (.rg [⟨some 2, none, .mov (.c (.bool false))⟩] (some [2]))
 (.ret)) (.skip)))
 (.seq (.seq (.rg [⟨some 13, none, .mov (.t 0)⟩,
 ⟨some 14, none, .len (.t 13)⟩,
 ⟨some 15, none, .mov (.c (.int .i64 0))⟩] (some [13, 14, 15]))
 (.blk 0 (i_tree_May_l0)))
 (.seq (.rg [⟨some 2, none, .mov (.c (.bool true))⟩] (some [2]))
 (.ret))))
def F_tree_May : F := ⟨i_tree_May, [(2, none)], false⟩
def ra_play_table_wins_0 : IR := .seq (.rg [⟨some 16, none, .mov (.t 78)⟩] (some [5, 6, 8, 10, 13, 15, 16, 79]))
 (.rg [⟨some 17, none, .mov (.t 79)⟩] (some [5, 6, 8, 10, 13, 15, 16, 17]))
def rb_play_table_wins_0 : IR := .blk 1 (.blk 2 (.seq (.rg [⟨some 81, none, .ld false 1 (.t 15)⟩,
 ⟨some 82, none, .mov (.t 81)⟩,
 ⟨some 83, (some (82, true)), .mov (.t 16)⟩,
 ⟨some 84, (some (82, true)), .fad 1 (.t 13)⟩,
 ⟨some 85, (some (82, true)), .ld false 1 (.t 84)⟩,
 ⟨some 86, (some (82, true)), .bin .neq (.t 83) (.t 85)⟩,
 ⟨some 87, none, .pick (.t 82) (.t 86) (.c (.bool false))⟩,
 ⟨some 80, none, .mov (.t 87)⟩] (some [5, 6, 8, 10, 13, 15, 16, 17, 80]))
 (.cond (.t 80) (.ext 1) (.seq (.rg [⟨some 89, none, .ld false 1 (.t 15)⟩,
 ⟨some 88, none, .mov (.t 89)⟩] (some [5, 6, 8, 10, 13, 16, 17, 88]))
 (.cond (.t 88) (.seq (.dq [(⟨some 90, none, .ld false 1 (.t 5)⟩, []),
 (⟨some 91, none, .ld false 1 (.t 6)⟩, []),
 (⟨some 92, none, .fad 2 (.t 13)⟩, []),
 (⟨some 93, none, .ld false 1 (.t 92)⟩, [2]),
 (⟨some 94, none, .iad 1 (.t 93) (.c (.int .i64 0))⟩, [2, 3]),
 (⟨some 95, none, .ld false 1 (.t 94)⟩, [2, 3, 4]),
 (⟨some 96, none, .ld false 1 (.t 8)⟩, []),
 (⟨some 97, none, .mov (.t 17)⟩, []),
 (⟨some 98, none, .call n_play_table_wins [(.t 90), (.t 91), (.t 95), (.t 96), (.t 97)]⟩, [0, 1, 2, 3, 4, 5, 6, 7]),
 (⟨none, none, .st 1 (.t 10) (.t 98)⟩, [0, 1, 2, 3, 4, 5, 6, 7, 8])] (some []))
 (.ret)) (.seq (.dq [(⟨some 100, none, .ld false 1 (.t 5)⟩, []),
 (⟨some 101, none, .ld false 1 (.t 6)⟩, []),
 (⟨some 102, none, .fad 2 (.t 13)⟩, []),
 (⟨some 103, none, .ld false 1 (.t 102)⟩, [2]),
 (⟨some 104, none, .mov (.t 16)⟩, []),
 (⟨some 105, none, .iad 1 (.t 103) (.t 104)⟩, [2, 3, 4]),
 (⟨some 106, none, .ld false 1 (.t 105)⟩, [2, 3, 4, 5]),
 (⟨some 107, none, .ld false 1 (.t 8)⟩, []),
 (⟨some 108, none, .mov (.t 17)⟩, []),
 (⟨some 109, none, .call n_play_table_wins [(.t 100), (.t 101), (.t 106), (.t 107), (.t 108)]⟩, [0, 1, 2, 3, 4, 5, 6, 7, 8]),
 (⟨some 110, none, .un .not (.t 109)⟩, [0, 1, 2, 3, 4, 5, 6, 7, 8, 9]),
 (⟨some 99, none, .mov (.t 110)⟩, [0, 1, 2, 3, 4, 5, 6, 7, 8, 9, 10])] (some [10, 99]))
 (.cond (.t 99) (.seq (.rg [⟨none, none, .st 1 (.t 10) (.c (.bool false))⟩] (some []))
 (.ret)) (.skip))))))))
def i_play_table_wins : IR := .seq (.rg [⟨some 5, none, .box (.t 0)⟩,
 ⟨some 6, none, .box (.t 1)⟩,
 ⟨some 8, none, .box (.t 3)⟩,
 ⟨some 10, none, .new (.bool false)⟩] (some [2, 4, 5, 6, 8, 10]))
 (.seq (.seq (.rg [⟨some 19, none, .ld false 1 (.t 5)⟩,
 ⟨some 20, none, .mov (.t 4)⟩,
 ⟨some 21, none, .call n_play_table_over [(.t 19), (.t 20)]⟩,
 ⟨some 18, none, .mov (.t 21)⟩,
 ⟨some 22, none, .ext (.t 18) 0⟩,
 ⟨some 23, none, .ext (.t 18) 1⟩,
 ⟨some 11, none, .mov (.t 22)⟩,
 ⟨some 12, none, .mov (.t 23)⟩] (some [2, 4, 5, 6, 8, 10, 11, 12]))
 (.seq (.rg [⟨some 24, none, .mov (.t 11)⟩] (some [2, 4, 5, 6, 8, 10, 12, 24]))
 (.cond (.t 24) (.seq (.rg [⟨some 25, none, .mov (.t 12)⟩,
 ⟨some 26, none, .ld false 1 (.t 8)⟩,
 ⟨some 27, none, .eq false .bool (.t 25) (.t 26)⟩,
 ⟨none, none, .st 1 (.t 10) (.t 27)⟩] (some [10]))
 (.ret)) (.skip))))
 (.seq (.rg [⟨some 28, none, .ld false 1 (.t 6)⟩,
 ⟨some 29, none, .mov (.t 2)⟩,
 ⟨some 30, none, .iad 3 (.t 28) (.t 29)⟩,
 ⟨some 31, none, .ld true 3 (.t 30)⟩,
 ⟨some 13, none, .new (.agg [.int .i64 0, .int .i64 0, .nsl 1])⟩,
 ⟨none, none, .st 3 (.t 13) (.t 31)⟩] (some [4, 5, 6, 8, 10, 13]))
 (.seq (.rg [⟨some 32, none, .ld false 1 (.t 5)⟩,
 ⟨some 33, none, .nck (.t 32)⟩,
 ⟨some 34, none, .fad 2 (.t 33)⟩,
 ⟨some 35, none, .ld false 1 (.t 34)⟩,
 ⟨some 36, none, .mov (.t 4)⟩,
 ⟨some 37, none, .len (.t 36)⟩,
 ⟨some 38, none, .iad 2 (.t 35) (.t 37)⟩,
 ⟨some 39, none, .fad 1 (.t 38)⟩,
 ⟨some 40, none, .ld false 1 (.t 39)⟩,
 ⟨some 41, none, .call n_spans_Size [(.t 40)]⟩,
 ⟨some 14, none, .mov (.t 41)⟩] (some [4, 5, 6, 8, 10, 13, 14]))
 (.seq (.dc [(⟨some 42, none, .ld false 1 (.t 5)⟩, [], false),
 (⟨some 43, none, .mov (.t 4)⟩, [], false),
 (⟨some 44, none, .call n_play_table_yes [(.t 42), (.t 43)]⟩, [0, 1], false),
 (⟨some 45, none, .ld false 1 (.t 8)⟩, [], false),
 (⟨some 46, none, .eq false .bool (.t 44) (.t 45)⟩, [0, 1, 2, 3], false),
 (⟨some 15, none, .new (.bool false)⟩, [], true),
 (⟨none, none, .st 1 (.t 15) (.t 46)⟩, [0, 1, 2, 3, 4, 5], true)] (some [4, 5, 6, 8, 10, 13, 14, 15]))
 (.seq (.seq (.rg [⟨some 47, none, .ld false 1 (.t 15)⟩,
 ⟨some 48, none, .mov (.t 47)⟩,
 ⟨some 49, (some (48, true)), .fad 0 (.t 13)⟩,
 ⟨some 50, (some (48, true)), .ld false 1 (.t 49)⟩,
 ⟨some 51, (some (48, true)), .bin .neq (.t 50) (.c (.int .i64 1))⟩,
 ⟨some 52, (some (48, true)), .mov (.t 51)⟩,
 ⟨some 53, (some (52, false)), .fad 1 (.t 13)⟩,
 ⟨some 54, (some (52, false)), .ld false 1 (.t 53)⟩,
 ⟨some 55, (some (52, false)), .mov (.t 14)⟩,
 ⟨some 56, (some (52, false)), .bin .geq (.t 54) (.t 55)⟩,
 ⟨some 57, (some (48, true)), .pick (.t 52) (.c (.bool true)) (.t 56)⟩,
 ⟨some 58, none, .pick (.t 48) (.t 57) (.c (.bool false))⟩,
 ⟨some 59, none, .mov (.t 58)⟩,
 ⟨some 60, (some (59, false)), .ld false 1 (.t 15)⟩,
 ⟨some 61, (some (59, false)), .un .not (.t 60)⟩,
 ⟨some 62, (some (59, false)), .mov (.t 61)⟩,
 ⟨some 63, (some (62, true)), .fad 0 (.t 13)⟩,
 ⟨some 64, (some (62, true)), .ld false 1 (.t 63)⟩,
 ⟨some 65, (some (62, true)), .bin .neq (.t 64) (.c (.int .i64 2))⟩,
 ⟨some 66, (some (62, true)), .mov (.t 65)⟩,
 ⟨some 67, (some (66, false)), .fad 2 (.t 13)⟩,
 ⟨some 68, (some (66, false)), .ld false 1 (.t 67)⟩,
 ⟨some 69, (some (66, false)), .len (.t 68)⟩,
 ⟨some 70, (some (66, false)), .mov (.t 14)⟩,
 ⟨some 71, (some (66, false)), .bin .neq (.t 69) (.t 70)⟩,
 ⟨some 72, (some (62, true)), .pick (.t 66) (.c (.bool true)) (.t 71)⟩,
 ⟨some 73, (some (59, false)), .pick (.t 62) (.t 72) (.c (.bool false))⟩,
 ⟨some 74, none, .pick (.t 59) (.c (.bool true)) (.t 73)⟩] (some [4, 5, 6, 8, 10, 13, 15, 74]))
 (.cond (.t 74) (.seq (.rg [⟨none, none, .st 1 (.t 10) (.c (.bool false))⟩] (some [10]))
 (.ret)) (.skip)))
 (.seq (.seq (.rg [⟨some 75, none, .ld false 1 (.t 5)⟩,
 ⟨some 76, none, .mov (.t 4)⟩,
 ⟨some 77, none, .call n_play_table_next [(.t 75), (.t 76)]⟩] (some [5, 6, 8, 10, 13, 15, 77]))
 (.blk 0 (.rf (.t 77) [78, 79] ra_play_table_wins_0 rb_play_table_wins_0)))
 (.seq (.rg [⟨none, none, .st 1 (.t 10) (.c (.bool true))⟩] (some [10]))
 (.ret))))))))
def F_play_table_wins : F := ⟨i_play_table_wins, [(10, some (false, 1))], false⟩
def b_ref19_May_0 : IR := .seq (.seq (.rg [⟨some 29, none, .mov (.t 4)⟩,
 ⟨some 30, none, .mov (.t 0)⟩,
 ⟨some 31, none, .mov (.t 3)⟩,
 ⟨some 32, none, .iad 3 (.t 30) (.t 31)⟩,
 ⟨some 33, none, .fad 2 (.t 32)⟩,
 ⟨some 34, none, .ld false 1 (.t 33)⟩,
 ⟨some 35, none, .len (.t 34)⟩,
 ⟨some 36, none, .bin .lss (.t 29) (.t 35)⟩] (some [0, 3, 4, 36]))
 (.cond (.t 36) (.skip) (.ext 2)))
 (.seq (.blk 3 (.seq (.rg [⟨some 39, none, .mov (.t 0)⟩,
 ⟨some 40, none, .mov (.t 3)⟩,
 ⟨some 41, none, .iad 3 (.t 39) (.t 40)⟩,
 ⟨some 42, none, .fad 2 (.t 41)⟩,
 ⟨some 43, none, .ld false 1 (.t 42)⟩,
 ⟨some 44, none, .mov (.t 4)⟩,
 ⟨some 45, none, .iad 1 (.t 43) (.t 44)⟩,
 ⟨some 46, none, .ld false 1 (.t 45)⟩,
 ⟨some 47, none, .bin .lss (.t 46) (.c (.int .i64 0))⟩,
 ⟨some 48, none, .mov (.t 47)⟩,
 ⟨some 49, (some (48, false)), .mov (.t 0)⟩,
 ⟨some 50, (some (48, false)), .mov (.t 3)⟩,
 ⟨some 51, (some (48, false)), .iad 3 (.t 49) (.t 50)⟩,
 ⟨some 52, (some (48, false)), .fad 2 (.t 51)⟩,
 ⟨some 53, (some (48, false)), .ld false 1 (.t 52)⟩,
 ⟨some 54, (some (48, false)), .mov (.t 4)⟩,
 ⟨some 55, (some (48, false)), .iad 1 (.t 53) (.t 54)⟩,
 ⟨some 56, (some (48, false)), .ld false 1 (.t 55)⟩,
 ⟨some 57, (some (48, false)), .mov (.t 3)⟩,
 ⟨some 58, (some (48, false)), .bin .geq (.t 56) (.t 57)⟩,
 ⟨some 59, none, .pick (.t 48) (.c (.bool true)) (.t 58)⟩] (some [0, 3, 4, 59]))
 (.cond (.t 59) (.seq (.rg [⟨some 2, none, .mov (.c (.bool false))⟩] (some [2]))
 (.ret)) (.skip))))
 (.rg [⟨some 37, none, .mov (.t 4)⟩,
 ⟨some 38, none, .bin .add (.t 37) (.c (.int .i64 1))⟩,
 ⟨some 4, none, .mov (.t 38)⟩] (some [0, 3, 4])))
def i_ref19_May_l0 : IR := .loop b_ref19_May_0
def b_ref19_May_1 : IR := .seq (.seq (.rg [⟨some 5, none, .mov (.t 3)⟩,
 ⟨some 6, none, .mov (.t 0)⟩,
 ⟨some 7, none, .len (.t 6)⟩,
 ⟨some 8, none, .bin .lss (.t 5) (.t 7)⟩] (some [0, 3, 8]))
 (.cond (.t 8) (.skip) (.ext 0)))
 (.seq (.blk 1 (.seq (.seq (.dq [(⟨some 11, none, .mov (.t 0)⟩, []),
 (⟨some 12, none, .mov (.t 3)⟩, []),
 (⟨some 13, none, .iad 3 (.t 11) (.t 12)⟩, [0, 1]),
 (⟨some 14, none, .fad 0 (.t 13)⟩, [0, 1, 2]),
 (⟨some 15, none, .ld false 1 (.t 14)⟩, [0, 1, 2, 3]),
 (⟨some 16, none, .mov (.t 0)⟩, []),
 (⟨some 17, none, .mov (.t 3)⟩, []),
 (⟨some 18, none, .iad 3 (.t 16) (.t 17)⟩, [5, 6]),
 (⟨some 19, none, .fad 1 (.t 18)⟩, [5, 6, 7]),
 (⟨some 20, none, .ld false 1 (.t 19)⟩, [5, 6, 7, 8]),
 (⟨some 21, none, .mov (.t 0)⟩, []),
 (⟨some 22, none, .mov (.t 3)⟩, []),
 (⟨some 23, none, .iad 3 (.t 21) (.t 22)⟩, [10, 11]),
 (⟨some 24, none, .fad 2 (.t 23)⟩, [10, 11, 12]),
 (⟨some 25, none, .ld false 1 (.t 24)⟩, [10, 11, 12, 13]),
 (⟨some 26, none, .len (.t 25)⟩, [10, 11, 12, 13, 14]),
 (⟨some 27, none, .call n_ref19_Fits [(.t 15), (.t 20), (.t 26)]⟩, [0, 1, 2, 3, 4, 5, 6, 7, 8, 9, 10, 11, 12, 13, 14, 15]),
 (⟨some 28, none, .un .not (.t 27)⟩, [0, 1, 2, 3, 4, 5, 6, 7, 8, 9, 10, 11, 12, 13, 14, 15, 16])] (some [0, 3, 28]))
 (.cond (.t 28) (.seq (.rg [⟨some 2, none, .mov (.c (.bool false))⟩] (some [2]))
 (.ret)) (.skip)))
 (.seq (.rg [⟨some 4, none, .mov (.c (.int .i64 0))⟩] (some [0, 3, 4]))
 (.blk 2 (i_ref19_May_l0)))))
 (.rg [⟨some 9, none, .mov (.t 3)⟩,
 ⟨some 10, none, .bin .add (.t 9) (.c (.int .i64 1))⟩,
 ⟨some 3, none, .mov (.t 10)⟩] (some [0, 3])))
def i_ref19_May_l1 : IR := .loop b_ref19_May_1
def i_ref19_May : IR := .seq (.rg [⟨some 2, none, .mov (.c (.bool false))⟩] (some [0]))
 (.seq (.seq (.rg [⟨some 3, none, .mov (.c (.int .i64 0))⟩] (some [0, 3]))
 (.blk 0 (i_ref19_May_l1)))
 (.seq (.rg [⟨some 60, none, .mov (.t 0)⟩,
 ⟨some 61, none, .len (.t 60)⟩,
 ⟨some 62, none, .bin .geq (.t 61) (.c (.int .i64 1))⟩,
 ⟨some 63, none, .mov (.t 62)⟩,
 ⟨some 64, (some (63, true)), .mov (.t 0)⟩,
 ⟨some 65, (some (63, true)), .len (.t 64)⟩,
 ⟨some 66, (some (63, true)), .bin .leq (.t 65) (.c (.int .i64 100000))⟩,
 ⟨some 67, none, .pick (.t 63) (.t 66) (.c (.bool false))⟩,
 ⟨some 2, none, .mov (.t 67)⟩] (some [2]))
 (.ret)))
def F_ref19_May : F := ⟨i_ref19_May, [(2, none)], false⟩
def b_ref20_wins_0 : IR := .seq (.seq (.rg [⟨some 78, none, .mov (.t 15)⟩,
 ⟨some 79, none, .mov (.t 13)⟩,
 ⟨some 80, none, .len (.t 79)⟩,
 ⟨some 81, none, .bin .lss (.t 78) (.t 80)⟩] (some [1, 3, 4, 5, 13, 14, 15, 81]))
 (.cond (.t 81) (.skip) (.ext 0)))
 (.seq (.blk 1 (.seq (.dq [(⟨some 84, none, .ld true 2 (.t 5)⟩, []),
 (⟨some 85, none, .mov (.t 1)⟩, []),
 (⟨some 86, none, .fad 2 (.t 14)⟩, []),
 (⟨some 87, none, .ld false 1 (.t 86)⟩, [2]),
 (⟨some 88, none, .mov (.t 15)⟩, []),
 (⟨some 89, none, .iad 1 (.t 87) (.t 88)⟩, [2, 3, 4]),
 (⟨some 90, none, .ld false 1 (.t 89)⟩, [2, 3, 4, 5]),
 (⟨some 91, none, .mov (.t 3)⟩, []),
 (⟨some 92, none, .mov (.t 4)⟩, []),
 (⟨some 93, none, .mov (.t 13)⟩, []),
 (⟨some 94, none, .mov (.t 15)⟩, []),
 (⟨some 95, none, .iad 1 (.t 93) (.t 94)⟩, [9, 10]),
 (⟨some 96, none, .ld false 1 (.t 95)⟩, [9, 10, 11]),
 (⟨some 97, none, .call n_ref20_with [(.t 92), (.t 96)]⟩, [8, 9, 10, 11, 12]),
 (⟨some 98, none, .call n_ref20_wins [(.t 84), (.t 85), (.t 90), (.t 91), (.t 97)]⟩, [0, 1, 2, 3, 4, 5, 6, 7, 8, 9, 10, 11, 12, 13]),
 (⟨some 99, none, .un .not (.t 98)⟩, [0, 1, 2, 3, 4, 5, 6, 7, 8, 9, 10, 11, 12, 13, 14])] (some [1, 3, 4, 5, 13, 14, 15, 99]))
 (.cond (.t 99) (.seq (.rg [⟨some 10, none, .mov (.c (.bool false))⟩] (some [10]))
 (.ret)) (.skip))))
 (.rg [⟨some 82, none, .mov (.t 15)⟩,
 ⟨some 83, none, .bin .add (.t 82) (.c (.int .i64 1))⟩,
 ⟨some 15, none, .mov (.t 83)⟩] (some [1, 3, 4, 5, 13, 14, 15])))
def i_ref20_wins_l0 : IR := .loop b_ref20_wins_0
def i_ref20_wins : IR := .seq (.rg [⟨some 5, none, .box (.t 0)⟩,
 ⟨some 10, none, .mov (.c (.bool false))⟩] (some [1, 2, 3, 4, 5]))
 (.seq (.rg [⟨some 17, none, .ld true 2 (.t 5)⟩,
 ⟨some 18, none, .mov (.t 4)⟩,
 ⟨some 19, none, .call n_ref20_Over [(.t 17), (.t 18)]⟩,
 ⟨some 16, none, .mov (.t 19)⟩,
 ⟨some 20, none, .ext (.t 16) 0⟩,
 ⟨some 21, none, .ext (.t 16) 1⟩,
 ⟨some 11, none, .mov (.t 20)⟩,
 ⟨some 12, none, .mov (.t 21)⟩] (some [1, 2, 3, 4, 5, 11, 12]))
 (.seq (.seq (.rg [⟨some 22, none, .mov (.t 11)⟩] (some [1, 2, 3, 4, 5, 12, 22]))
 (.cond (.t 22) (.seq (.rg [⟨some 23, none, .mov (.t 12)⟩,
 ⟨some 24, none, .mov (.t 3)⟩,
 ⟨some 25, none, .eq false .bool (.t 23) (.t 24)⟩,
 ⟨some 10, none, .mov (.t 25)⟩] (some [10]))
 (.ret)) (.skip)))
 (.seq (.rg [⟨some 26, none, .ld true 2 (.t 5)⟩,
 ⟨some 27, none, .mov (.t 4)⟩,
 ⟨some 28, none, .len (.t 27)⟩,
 ⟨some 29, none, .call n_ref20_Nums [(.t 26), (.t 28)]⟩,
 ⟨some 13, none, .mov (.t 29)⟩] (some [1, 2, 3, 4, 5, 13]))
 (.seq (.rg [⟨some 30, none, .mov (.t 1)⟩,
 ⟨some 31, none, .mov (.t 2)⟩,
 ⟨some 32, none, .iad 3 (.t 30) (.t 31)⟩,
 ⟨some 33, none, .ld true 3 (.t 32)⟩,
 ⟨some 14, none, .new (.agg [.int .i64 0, .int .i64 0, .nsl 1])⟩,
 ⟨none, none, .st 3 (.t 14) (.t 33)⟩] (some [1, 3, 4, 5, 13, 14]))
 (.seq (.seq (.rg [⟨some 34, none, .ld true 2 (.t 5)⟩,
 ⟨some 35, none, .mov (.t 4)⟩,
 ⟨some 36, none, .len (.t 35)⟩,
 ⟨some 37, none, .call n_ref20_Yes [(.t 34), (.t 36)]⟩,
 ⟨some 38, none, .mov (.t 3)⟩,
 ⟨some 39, none, .eq false .bool (.t 37) (.t 38)⟩] (some [1, 3, 4, 5, 13, 14, 39]))
 (.cond (.t 39) (.seq (.dq [(⟨some 40, none, .fad 0 (.t 14)⟩, []),
 (⟨some 41, none, .ld false 1 (.t 40)⟩, [0]),
 (⟨some 42, none, .bin .eql (.t 41) (.c (.int .i64 1))⟩, [0, 1]),
 (⟨some 43, none, .mov (.t 42)⟩, [0, 1, 2]),
 (⟨some 44, (some (43, true)), .fad 1 (.t 14)⟩, [0, 1, 2, 3]),
 (⟨some 45, (some (43, true)), .ld false 1 (.t 44)⟩, [0, 1, 2, 3, 4]),
 (⟨some 46, (some (43, true)), .mov (.t 13)⟩, [0, 1, 2, 3]),
 (⟨some 47, (some (43, true)), .len (.t 46)⟩, [0, 1, 2, 3, 6]),
 (⟨some 48, (some (43, true)), .bin .lss (.t 45) (.t 47)⟩, [0, 1, 2, 3, 4, 5, 6, 7]),
 (⟨some 49, none, .pick (.t 43) (.t 48) (.c (.bool false))⟩, [0, 1, 2, 3, 4, 5, 6, 7, 8]),
 (⟨some 50, none, .mov (.t 49)⟩, [0, 1, 2, 3, 4, 5, 6, 7, 8, 9]),
 (⟨some 51, (some (50, true)), .ld true 2 (.t 5)⟩, [0, 1, 2, 3, 4, 5, 6, 7, 8, 9, 10]),
 (⟨some 52, (some (50, true)), .mov (.t 1)⟩, [0, 1, 2, 3, 4, 5, 6, 7, 8, 9, 10]),
 (⟨some 53, (some (50, true)), .fad 2 (.t 14)⟩, [0, 1, 2, 3, 4, 5, 6, 7, 8, 9, 10]),
 (⟨some 54, (some (50, true)), .ld false 1 (.t 53)⟩, [0, 1, 2, 3, 4, 5, 6, 7, 8, 9, 10, 13]),
 (⟨some 55, (some (50, true)), .iad 1 (.t 54) (.c (.int .i64 0))⟩, [0, 1, 2, 3, 4, 5, 6, 7, 8, 9, 10, 13, 14]),
 (⟨some 56, (some (50, true)), .ld false 1 (.t 55)⟩, [0, 1, 2, 3, 4, 5, 6, 7, 8, 9, 10, 13, 14, 15]),
 (⟨some 57, (some (50, true)), .mov (.t 3)⟩, [0, 1, 2, 3, 4, 5, 6, 7, 8, 9, 10]),
 (⟨some 58, (some (50, true)), .mov (.t 4)⟩, [0, 1, 2, 3, 4, 5, 6, 7, 8, 9, 10]),
 (⟨some 59, (some (50, true)), .mov (.t 13)⟩, [0, 1, 2, 3, 4, 5, 6, 7, 8, 9, 10]),
 (⟨some 60, (some (50, true)), .fad 1 (.t 14)⟩, [0, 1, 2, 3, 4, 5, 6, 7, 8, 9, 10]),
 (⟨some 61, (some (50, true)), .ld false 1 (.t 60)⟩, [0, 1, 2, 3, 4, 5, 6, 7, 8, 9, 10, 20]),
 (⟨some 62, (some (50, true)), .iad 1 (.t 59) (.t 61)⟩, [0, 1, 2, 3, 4, 5, 6, 7, 8, 9, 10, 19, 20, 21]),
 (⟨some 63, (some (50, true)), .ld false 1 (.t 62)⟩, [0, 1, 2, 3, 4, 5, 6, 7, 8, 9, 10, 19, 20, 21, 22]),
 (⟨some 64, (some (50, true)), .call n_ref20_with [(.t 58), (.t 63)]⟩, [0, 1, 2, 3, 4, 5, 6, 7, 8, 9, 10, 18, 19, 20, 21, 22, 23]),
 (⟨some 65, (some (50, true)), .call n_ref20_wins [(.t 51), (.t 52), (.t 56), (.t 57), (.t 64)]⟩, [0, 1, 2, 3, 4, 5, 6, 7, 8, 9, 10, 11, 12, 13, 14, 15, 16, 17, 18, 19, 20, 21, 22, 23, 24]),
 (⟨some 66, none, .pick (.t 50) (.t 65) (.c (.bool false))⟩, [0, 1, 2, 3, 4, 5, 6, 7, 8, 9, 10, 11, 12, 13, 14, 15, 16, 17, 18, 19, 20, 21, 22, 23, 24, 25]),
 (⟨some 10, none, .mov (.t 66)⟩, [0, 1, 2, 3, 4, 5, 6, 7, 8, 9, 10, 11, 12, 13, 14, 15, 16, 17, 18, 19, 20, 21, 22, 23, 24, 25, 26])] (some [10]))
 (.ret)) (.skip)))
 (.seq (.seq (.rg [⟨some 67, none, .fad 0 (.t 14)⟩,
 ⟨some 68, none, .ld false 1 (.t 67)⟩,
 ⟨some 69, none, .bin .neq (.t 68) (.c (.int .i64 2))⟩,
 ⟨some 70, none, .mov (.t 69)⟩,
 ⟨some 71, (some (70, false)), .fad 2 (.t 14)⟩,
 ⟨some 72, (some (70, false)), .ld false 1 (.t 71)⟩,
 ⟨some 73, (some (70, false)), .len (.t 72)⟩,
 ⟨some 74, (some (70, false)), .mov (.t 13)⟩,
 ⟨some 75, (some (70, false)), .len (.t 74)⟩,
 ⟨some 76, (some (70, false)), .bin .neq (.t 73) (.t 75)⟩,
 ⟨some 77, none, .pick (.t 70) (.c (.bool true)) (.t 76)⟩] (some [1, 3, 4, 5, 13, 14, 77]))
 (.cond (.t 77) (.seq (.rg [⟨some 10, none, .mov (.c (.bool false))⟩] (some [10]))
 (.ret)) (.skip)))
 (.seq (.seq (.rg [⟨some 15, none, .mov (.c (.int .i64 0))⟩] (some [1, 3, 4, 5, 13, 14, 15]))
 (.blk 0 (i_ref20_wins_l0)))
 (.seq (.rg [⟨some 10, none, .mov (.c (.bool true))⟩] (some [10]))
 (.ret)))))))))
def F_ref20_wins : F := ⟨i_ref20_wins, [(10, none)], false⟩
def ra_play_table_value_0 : IR := .rg [⟨some 9, none, .mov (.t 25)⟩] (some [2, 4, 7, 9])
def rb_play_table_value_0 : IR := .blk 1 (.seq (.dq [(⟨some 26, none, .ld false 1 (.t 2)⟩, []),
 (⟨some 27, none, .mov (.t 9)⟩, []),
 (⟨some 28, none, .call n_play_table_value [(.t 26), (.t 27)]⟩, [0, 1]),
 (⟨some 29, none, .ld false 1 (.t 7)⟩, []),
 (⟨some 30, none, .eq false .bool (.t 28) (.t 29)⟩, [0, 1, 2, 3])] (some [4, 7, 30]))
 (.cond (.t 30) (.seq (.rg [⟨some 31, none, .ld false 1 (.t 7)⟩,
 ⟨none, none, .st 1 (.t 4) (.t 31)⟩] (some []))
 (.ret)) (.skip)))
def i_play_table_value : IR := .seq (.rg [⟨some 2, none, .box (.t 0)⟩,
 ⟨some 4, none, .new (.bool false)⟩] (some [1, 2, 4]))
 (.seq (.seq (.rg [⟨some 11, none, .ld false 1 (.t 2)⟩,
 ⟨some 12, none, .mov (.t 1)⟩,
 ⟨some 13, none, .call n_play_table_over [(.t 11), (.t 12)]⟩,
 ⟨some 10, none, .mov (.t 13)⟩,
 ⟨some 14, none, .ext (.t 10) 0⟩,
 ⟨some 15, none, .ext (.t 10) 1⟩,
 ⟨some 5, none, .mov (.t 14)⟩,
 ⟨some 6, none, .mov (.t 15)⟩] (some [1, 2, 4, 5, 6]))
 (.seq (.rg [⟨some 16, none, .mov (.t 5)⟩] (some [1, 2, 4, 6, 16]))
 (.cond (.t 16) (.seq (.rg [⟨some 17, none, .mov (.t 6)⟩,
 ⟨none, none, .st 1 (.t 4) (.t 17)⟩] (some [4]))
 (.ret)) (.skip))))
 (.seq (.rg [⟨some 18, none, .ld false 1 (.t 2)⟩,
 ⟨some 19, none, .mov (.t 1)⟩,
 ⟨some 20, none, .call n_play_table_yes [(.t 18), (.t 19)]⟩,
 ⟨some 7, none, .new (.bool false)⟩,
 ⟨none, none, .st 1 (.t 7) (.t 20)⟩] (some [1, 2, 4, 7]))
 (.seq (.seq (.rg [⟨some 21, none, .ld false 1 (.t 2)⟩,
 ⟨some 22, none, .mov (.t 1)⟩,
 ⟨some 23, none, .call n_play_table_next [(.t 21), (.t 22)]⟩] (some [2, 4, 7, 23]))
 (.blk 0 (.rf (.t 23) [24, 25] ra_play_table_value_0 rb_play_table_value_0)))
 (.seq (.rg [⟨some 32, none, .ld false 1 (.t 7)⟩,
 ⟨some 33, none, .un .not (.t 32)⟩,
 ⟨none, none, .st 1 (.t 4) (.t 33)⟩] (some [4]))
 (.ret)))))
def F_play_table_value : F := ⟨i_play_table_value, [(4, some (false, 1))], false⟩
def b_ref20_value_0 : IR := .seq (.seq (.rg [⟨some 24, none, .mov (.t 10)⟩,
 ⟨some 25, none, .mov (.t 7)⟩,
 ⟨some 26, none, .len (.t 25)⟩,
 ⟨some 27, none, .bin .lss (.t 24) (.t 26)⟩] (some [1, 2, 7, 8, 9, 10, 27]))
 (.cond (.t 27) (.skip) (.ext 0)))
 (.seq (.blk 1 (.seq (.dq [(⟨some 30, none, .ld true 2 (.t 2)⟩, []),
 (⟨some 31, none, .mov (.t 1)⟩, []),
 (⟨some 32, none, .mov (.t 7)⟩, []),
 (⟨some 33, none, .mov (.t 10)⟩, []),
 (⟨some 34, none, .iad 1 (.t 32) (.t 33)⟩, [2, 3]),
 (⟨some 35, none, .ld false 1 (.t 34)⟩, [2, 3, 4]),
 (⟨some 36, none, .call n_ref20_with [(.t 31), (.t 35)]⟩, [1, 2, 3, 4, 5]),
 (⟨some 37, none, .call n_ref20_value [(.t 30), (.t 36)]⟩, [0, 1, 2, 3, 4, 5, 6]),
 (⟨some 11, none, .mov (.t 37)⟩, [0, 1, 2, 3, 4, 5, 6, 7])] (some [1, 2, 7, 8, 9, 10, 11]))
 (.seq (.rg [⟨some 38, none, .mov (.t 8)⟩,
 ⟨some 39, none, .mov (.t 38)⟩,
 ⟨some 40, (some (39, false)), .mov (.t 11)⟩,
 ⟨some 41, none, .pick (.t 39) (.c (.bool true)) (.t 40)⟩,
 ⟨some 8, none, .mov (.t 41)⟩] (some [1, 2, 7, 8, 9, 10, 11]))
 (.rg [⟨some 42, none, .mov (.t 9)⟩,
 ⟨some 43, none, .mov (.t 42)⟩,
 ⟨some 44, (some (43, true)), .mov (.t 11)⟩,
 ⟨some 45, none, .pick (.t 43) (.t 44) (.c (.bool false))⟩,
 ⟨some 9, none, .mov (.t 45)⟩] (some [1, 2, 7, 8, 9, 10])))))
 (.rg [⟨some 28, none, .mov (.t 10)⟩,
 ⟨some 29, none, .bin .add (.t 28) (.c (.int .i64 1))⟩,
 ⟨some 10, none, .mov (.t 29)⟩] (some [1, 2, 7, 8, 9, 10])))
def i_ref20_value_l0 : IR := .loop b_ref20_value_0
def i_ref20_value : IR := .seq (.rg [⟨some 2, none, .box (.t 0)⟩,
 ⟨some 4, none, .mov (.c (.bool false))⟩] (some [1, 2]))
 (.seq (.rg [⟨some 13, none, .ld true 2 (.t 2)⟩,
 ⟨some 14, none, .mov (.t 1)⟩,
 ⟨some 15, none, .call n_ref20_Over [(.t 13), (.t 14)]⟩,
 ⟨some 12, none, .mov (.t 15)⟩,
 ⟨some 16, none, .ext (.t 12) 0⟩,
 ⟨some 17, none, .ext (.t 12) 1⟩,
 ⟨some 5, none, .mov (.t 16)⟩,
 ⟨some 6, none, .mov (.t 17)⟩] (some [1, 2, 5, 6]))
 (.seq (.seq (.rg [⟨some 18, none, .mov (.t 5)⟩] (some [1, 2, 6, 18]))
 (.cond (.t 18) (.seq (.rg [⟨some 19, none, .mov (.t 6)⟩,
 ⟨some 4, none, .mov (.t 19)⟩] (some [4]))
 (.ret)) (.skip)))
 (.seq (.rg [⟨some 20, none, .ld true 2 (.t 2)⟩,
 ⟨some 21, none, .mov (.t 1)⟩,
 ⟨some 22, none, .len (.t 21)⟩,
 ⟨some 23, none, .call n_ref20_Nums [(.t 20), (.t 22)]⟩,
 ⟨some 7, none, .mov (.t 23)⟩] (some [1, 2, 7]))
 (.seq (.rg [⟨some 8, none, .mov (.c (.bool false))⟩] (some [1, 2, 7, 8]))
 (.seq (.rg [⟨some 9, none, .mov (.c (.bool true))⟩] (some [1, 2, 7, 8, 9]))
 (.seq (.seq (.rg [⟨some 10, none, .mov (.c (.int .i64 0))⟩] (some [1, 2, 7, 8, 9, 10]))
 (.blk 0 (i_ref20_value_l0)))
 (.seq (.seq (.rg [⟨some 46, none, .ld true 2 (.t 2)⟩,
 ⟨some 47, none, .mov (.t 1)⟩,
 ⟨some 48, none, .len (.t 47)⟩,
 ⟨some 49, none, .call n_ref20_Yes [(.t 46), (.t 48)]⟩] (some [8, 9, 49]))
 (.cond (.t 49) (.seq (.rg [⟨some 50, none, .mov (.t 8)⟩,
 ⟨some 4, none, .mov (.t 50)⟩] (some [4]))
 (.ret)) (.skip)))
 (.seq (.rg [⟨some 51, none, .mov (.t 9)⟩,
 ⟨some 4, none, .mov (.t 51)⟩] (some [4]))
 (.ret)))))))))
def F_ref20_value : F := ⟨i_ref20_value, [(4, none)], false⟩
def b_ref08_Right_0 : IR := .seq (.seq (.rg [⟨some 33, none, .mov (.t 7)⟩,
 ⟨some 34, none, .mov (.t 6)⟩,
 ⟨some 35, none, .bin .lss (.t 33) (.t 34)⟩] (some [1, 2, 5, 6, 7, 35]))
 (.cond (.t 35) (.skip) (.ext 2)))
 (.seq (.blk 3 (.seq (.dq [(⟨some 38, none, .fad 1 (.t 2)⟩, []),
 (⟨some 39, none, .ld false 1 (.t 38)⟩, [0]),
 (⟨some 40, none, .mov (.t 7)⟩, []),
 (⟨some 41, none, .iad 1 (.t 39) (.t 40)⟩, [0, 1, 2]),
 (⟨some 42, none, .ld false 1 (.t 41)⟩, [0, 1, 2, 3]),
 (⟨some 43, none, .fad 1 (.t 2)⟩, []),
 (⟨some 44, none, .ld false 1 (.t 43)⟩, [5]),
 (⟨some 45, none, .mov (.t 6)⟩, []),
 (⟨some 46, none, .iad 1 (.t 44) (.t 45)⟩, [5, 6, 7]),
 (⟨some 47, none, .ld false 1 (.t 46)⟩, [5, 6, 7, 8]),
 (⟨some 48, none, .bin .eql (.t 42) (.t 47)⟩, [0, 1, 2, 3, 4, 5, 6, 7, 8, 9])] (some [1, 2, 5, 6, 7, 48]))
 (.cond (.t 48) (.seq (.rg [⟨some 4, none, .mov (.c (.bool false))⟩] (some [4]))
 (.ret)) (.skip))))
 (.rg [⟨some 36, none, .mov (.t 7)⟩,
 ⟨some 37, none, .bin .add (.t 36) (.c (.int .i64 1))⟩,
 ⟨some 7, none, .mov (.t 37)⟩] (some [1, 2, 5, 6, 7])))
def i_ref08_Right_l0 : IR := .loop b_ref08_Right_0
def b_ref08_Right_1 : IR := .seq (.seq (.rg [⟨some 13, none, .mov (.t 6)⟩,
 ⟨some 14, none, .mov (.t 5)⟩,
 ⟨some 15, none, .bin .lss (.t 13) (.t 14)⟩] (some [1, 2, 5, 6, 15]))
 (.cond (.t 15) (.skip) (.ext 0)))
 (.seq (.blk 1 (.seq (.seq (.rg [⟨some 18, none, .fad 1 (.t 2)⟩,
 ⟨some 19, none, .ld false 1 (.t 18)⟩,
 ⟨some 20, none, .mov (.t 6)⟩,
 ⟨some 21, none, .iad 1 (.t 19) (.t 20)⟩,
 ⟨some 22, none, .ld false 1 (.t 21)⟩,
 ⟨some 23, none, .bin .lss (.t 22) (.c (.int .i64 0))⟩,
 ⟨some 24, none, .mov (.t 23)⟩,
 ⟨some 25, (some (24, false)), .fad 1 (.t 2)⟩,
 ⟨some 26, (some (24, false)), .ld false 1 (.t 25)⟩,
 ⟨some 27, (some (24, false)), .mov (.t 6)⟩,
 ⟨some 28, (some (24, false)), .iad 1 (.t 26) (.t 27)⟩,
 ⟨some 29, (some (24, false)), .ld false 1 (.t 28)⟩,
 ⟨some 30, (some (24, false)), .mov (.t 1)⟩,
 ⟨some 31, (some (24, false)), .bin .geq (.t 29) (.t 30)⟩,
 ⟨some 32, none, .pick (.t 24) (.c (.bool true)) (.t 31)⟩] (some [1, 2, 5, 6, 32]))
 (.cond (.t 32) (.seq (.rg [⟨some 4, none, .mov (.c (.bool false))⟩] (some [4]))
 (.ret)) (.skip)))
 (.seq (.rg [⟨some 7, none, .mov (.c (.int .i64 0))⟩] (some [1, 2, 5, 6, 7]))
 (.blk 2 (i_ref08_Right_l0)))))
 (.rg [⟨some 16, none, .mov (.t 6)⟩,
 ⟨some 17, none, .bin .add (.t 16) (.c (.int .i64 1))⟩,
 ⟨some 6, none, .mov (.t 17)⟩] (some [1, 2, 5, 6])))
def i_ref08_Right_l1 : IR := .loop b_ref08_Right_1
theorem r_ref08_Right_1 {C : Cx} {Y : Yl} {fr : Fr} {h : List Ob} : evw C Y i_ref08_Right_l1 fr h = nxt (evw C Y b_ref08_Right_1 fr h) fun fr h => evw C Y i_ref08_Right_l1 fr h := w_loop
def b_ref08_Right_2 : IR := .seq (.seq (.rg [⟨some 61, none, .mov (.t 9)⟩,
 ⟨some 62, none, .fad 2 (.t 2)⟩,
 ⟨some 63, none, .ld false 1 (.t 62)⟩,
 ⟨some 64, none, .len (.t 63)⟩,
 ⟨some 65, none, .bin .lss (.t 61) (.t 64)⟩] (some [2, 5, 8, 9, 65]))
 (.cond (.t 65) (.skip) (.ext 4)))
 (.seq (.blk 5 (.seq (.rg [⟨some 68, none, .fad 2 (.t 2)⟩,
 ⟨some 69, none, .ld false 1 (.t 68)⟩,
 ⟨some 70, none, .mov (.t 9)⟩,
 ⟨some 71, none, .iad 1 (.t 69) (.t 70)⟩,
 ⟨some 72, none, .ld false 1 (.t 71)⟩,
 ⟨some 73, none, .bin .eql (.t 72) (.c (.int .i64 0))⟩] (some [2, 5, 8, 9, 73]))
 (.cond (.t 73) (.seq (.rg [⟨some 4, none, .mov (.c (.bool false))⟩] (some [4]))
 (.ret)) (.skip))))
 (.rg [⟨some 66, none, .mov (.t 9)⟩,
 ⟨some 67, none, .bin .add (.t 66) (.c (.int .i64 1))⟩,
 ⟨some 9, none, .mov (.t 67)⟩] (some [2, 5, 8, 9])))
def i_ref08_Right_l2 : IR := .loop b_ref08_Right_2
def i_ref08_Right : IR := .seq (.rg [⟨some 2, none, .box (.t 0)⟩,
 ⟨some 4, none, .mov (.c (.bool false))⟩] (some [1, 2]))
 (.seq (.rg [⟨some 10, none, .fad 1 (.t 2)⟩,
 ⟨some 11, none, .ld false 1 (.t 10)⟩,
 ⟨some 12, none, .len (.t 11)⟩,
 ⟨some 5, none, .mov (.t 12)⟩] (some [1, 2, 5]))
 (.seq (.seq (.rg [⟨some 6, none, .mov (.c (.int .i64 0))⟩] (some [1, 2, 5, 6]))
 (.blk 0 (i_ref08_Right_l1)))
 (.seq (.seq (.rg [⟨some 49, none, .fad 0 (.t 2)⟩,
 ⟨some 50, none, .ld false 1 (.t 49)⟩,
 ⟨some 51, none, .bin .eql (.t 50) (.c (.int .i64 1))⟩,
 ⟨some 52, none, .mov (.t 51)⟩,
 ⟨some 53, (some (52, false)), .fad 0 (.t 2)⟩,
 ⟨some 54, (some (52, false)), .ld false 1 (.t 53)⟩,
 ⟨some 55, (some (52, false)), .bin .eql (.t 54) (.c (.int .i64 3))⟩,
 ⟨some 56, none, .pick (.t 52) (.c (.bool true)) (.t 55)⟩] (some [2, 5, 56]))
 (.cond (.t 56) (.seq (.rg [⟨some 57, none, .fad 0 (.t 2)⟩,
 ⟨some 58, none, .ld false 1 (.t 57)⟩,
 ⟨some 59, none, .bin .sub (.t 58) (.c (.int .i64 1))⟩,
 ⟨some 60, none, .bin .quo (.t 59) (.c (.int .i64 2))⟩,
 ⟨some 8, none, .mov (.t 60)⟩] (some [2, 5, 8]))
 (.seq (.seq (.rg [⟨some 9, none, .mov (.c (.int .i64 0))⟩] (some [2, 5, 8, 9]))
 (.blk 4 (i_ref08_Right_l2)))
 (.seq (.rg [⟨some 74, none, .mov (.t 5)⟩,
 ⟨some 75, none, .mov (.t 8)⟩,
 ⟨some 76, none, .bin .sub (.t 74) (.t 75)⟩,
 ⟨some 77, none, .bin .geq (.t 76) (.c (.int .i64 1))⟩,
 ⟨some 78, none, .mov (.t 77)⟩,
 ⟨some 79, (some (78, true)), .mov (.t 5)⟩,
 ⟨some 80, (some (78, true)), .mov (.t 8)⟩,
 ⟨some 81, (some (78, true)), .bin .sub (.t 79) (.t 80)⟩,
 ⟨some 82, (some (78, true)), .bin .leq (.t 81) (.c (.int .i64 8))⟩,
 ⟨some 83, none, .pick (.t 78) (.t 82) (.c (.bool false))⟩,
 ⟨some 84, none, .mov (.t 83)⟩,
 ⟨some 85, (some (84, true)), .fad 2 (.t 2)⟩,
 ⟨some 86, (some (84, true)), .ld false 1 (.t 85)⟩,
 ⟨some 87, (some (84, true)), .len (.t 86)⟩,
 ⟨some 88, (some (84, true)), .mov (.t 5)⟩,
 ⟨some 89, (some (84, true)), .mov (.t 8)⟩,
 ⟨some 90, (some (84, true)), .bin .sub (.t 88) (.t 89)⟩,
 ⟨some 91, (some (84, true)), .bin .eql (.t 87) (.t 90)⟩,
 ⟨some 92, none, .pick (.t 84) (.t 91) (.c (.bool false))⟩,
 ⟨some 93, none, .mov (.t 92)⟩,
 ⟨some 94, (some (93, true)), .fad 2 (.t 2)⟩,
 ⟨some 95, (some (93, true)), .ld false 1 (.t 94)⟩,
 ⟨some 96, (some (93, true)), .call n_ref08_all [(.t 95), (.c (.int .i64 1048576))]⟩,
 ⟨some 97, none, .pick (.t 93) (.t 96) (.c (.bool false))⟩,
 ⟨some 98, none, .mov (.t 97)⟩,
 ⟨some 99, (some (98, true)), .fad 3 (.t 2)⟩,
 ⟨some 100, (some (98, true)), .ld false 1 (.t 99)⟩,
 ⟨some 101, (some (98, true)), .bin .geq (.t 100) (.c (.int .i64 0))⟩,
 ⟨some 102, none, .pick (.t 98) (.t 101) (.c (.bool false))⟩,
 ⟨some 103, none, .mov (.t 102)⟩,
 ⟨some 104, (some (103, true)), .fad 3 (.t 2)⟩,
 ⟨some 105, (some (103, true)), .ld false 1 (.t 104)⟩,
 ⟨some 106, (some (103, true)), .bin .leq (.t 105) (.c (.int .i64 5))⟩,
 ⟨some 107, none, .pick (.t 103) (.t 106) (.c (.bool false))⟩,
 ⟨some 108, none, .mov (.t 107)⟩,
 ⟨some 109, (some (108, true)), .fad 4 (.t 2)⟩,
 ⟨some 110, (some (108, true)), .ld false 1 (.t 109)⟩,
 ⟨some 111, (some (108, true)), .bsf (.int .i64 0) 1 [(0, (.t 110))]⟩,
 ⟨some 112, (some (108, true)), .call n_ref08_all [(.t 111), (.c (.int .i64 1099511627776))]⟩,
 ⟨some 113, none, .pick (.t 108) (.t 112) (.c (.bool false))⟩,
 ⟨some 114, none, .mov (.t 113)⟩,
 ⟨some 115, (some (114, true)), .fad 5 (.t 2)⟩,
 ⟨some 116, (some (114, true)), .ld false 1 (.t 115)⟩,
 ⟨some 117, (some (114, true)), .len (.t 116)⟩,
 ⟨some 118, (some (114, true)), .bin .eql (.t 117) (.c (.int .i64 0))⟩,
 ⟨some 119, none, .pick (.t 114) (.t 118) (.c (.bool false))⟩,
 ⟨some 4, none, .mov (.t 119)⟩] (some [4]))
 (.ret)))) (.skip)))
 (.seq (.seq (.rg [⟨some 120, none, .fad 2 (.t 2)⟩,
 ⟨some 121, none, .ld false 1 (.t 120)⟩,
 ⟨some 122, none, .len (.t 121)⟩,
 ⟨some 123, none, .bin .gtr (.t 122) (.c (.int .i64 0))⟩,
 ⟨some 124, none, .mov (.t 123)⟩,
 ⟨some 125, (some (124, false)), .fad 3 (.t 2)⟩,
 ⟨some 126, (some (124, false)), .ld false 1 (.t 125)⟩,
 ⟨some 127, (some (124, false)), .bin .neq (.t 126) (.c (.int .i64 0))⟩,
 ⟨some 128, none, .pick (.t 124) (.c (.bool true)) (.t 127)⟩,
 ⟨some 129, none, .mov (.t 128)⟩,
 ⟨some 130, (some (129, false)), .fad 4 (.t 2)⟩,
 ⟨some 131, (some (129, false)), .ld false 1 (.t 130)⟩,
 ⟨some 132, (some (129, false)), .bin .neq (.t 131) (.c (.int .i64 0))⟩,
 ⟨some 133, none, .pick (.t 129) (.c (.bool true)) (.t 132)⟩,
 ⟨some 134, none, .mov (.t 133)⟩,
 ⟨some 135, (some (134, false)), .fad 5 (.t 2)⟩,
 ⟨some 136, (some (134, false)), .ld false 1 (.t 135)⟩,
 ⟨some 137, (some (134, false)), .call n_ref08_all [(.t 136), (.c (.int .i64 1048576))]⟩,
 ⟨some 138, (some (134, false)), .un .not (.t 137)⟩,
 ⟨some 139, none, .pick (.t 134) (.c (.bool true)) (.t 138)⟩,
 ⟨some 140, none, .mov (.t 139)⟩,
 ⟨some 141, (some (140, false)), .fad 5 (.t 2)⟩,
 ⟨some 142, (some (140, false)), .ld false 1 (.t 141)⟩,
 ⟨some 143, (some (140, false)), .len (.t 142)⟩,
 ⟨some 144, (some (140, false)), .bin .gtr (.t 143) (.c (.int .i64 96))⟩,
 ⟨some 145, none, .pick (.t 140) (.c (.bool true)) (.t 144)⟩] (some [2, 5, 145]))
 (.cond (.t 145) (.seq (.rg [⟨some 4, none, .mov (.c (.bool false))⟩] (some [4]))
 (.ret)) (.skip)))
 (.seq (.seq (.rg [⟨some 146, none, .fad 0 (.t 2)⟩,
 ⟨some 147, none, .ld false 1 (.t 146)⟩] (some [2, 5, 147]))
 (.blk 6 (.seq (.rg [⟨some 149, none, .bin .eql (.t 147) (.c (.int .i64 2))⟩,
 ⟨some 148, none, .mov (.t 149)⟩] (some [2, 5, 147, 148]))
 (.cond (.t 148) (.seq (.rg [⟨some 150, none, .mov (.t 5)⟩,
 ⟨some 151, none, .bin .eql (.t 150) (.c (.int .i64 3))⟩,
 ⟨some 152, none, .mov (.t 151)⟩,
 ⟨some 153, (some (152, true)), .fad 5 (.t 2)⟩,
 ⟨some 154, (some (152, true)), .ld false 1 (.t 153)⟩,
 ⟨some 155, (some (152, true)), .len (.t 154)⟩,
 ⟨some 156, (some (152, true)), .bin .eql (.t 155) (.c (.int .i64 0))⟩,
 ⟨some 157, none, .pick (.t 152) (.t 156) (.c (.bool false))⟩,
 ⟨some 4, none, .mov (.t 157)⟩] (some [4]))
 (.ret)) (.seq (.rg [⟨some 159, none, .bin .eql (.t 147) (.c (.int .i64 4))⟩,
 ⟨some 158, none, .mov (.t 159)⟩] (some [2, 5, 147, 158]))
 (.cond (.t 158) (.seq (.rg [⟨some 160, none, .mov (.t 5)⟩,
 ⟨some 161, none, .bin .eql (.t 160) (.c (.int .i64 2))⟩,
 ⟨some 162, none, .mov (.t 161)⟩,
 ⟨some 163, (some (162, true)), .fad 5 (.t 2)⟩,
 ⟨some 164, (some (162, true)), .ld false 1 (.t 163)⟩,
 ⟨some 165, (some (162, true)), .len (.t 164)⟩,
 ⟨some 166, (some (162, true)), .bin .geq (.t 165) (.c (.int .i64 1))⟩,
 ⟨some 167, none, .pick (.t 162) (.t 166) (.c (.bool false))⟩,
 ⟨some 4, none, .mov (.t 167)⟩] (some [4]))
 (.ret)) (.seq (.rg [⟨some 169, none, .bin .eql (.t 147) (.c (.int .i64 5))⟩,
 ⟨some 168, none, .mov (.t 169)⟩] (some [2, 5, 147, 168]))
 (.cond (.t 168) (.seq (.rg [⟨some 170, none, .mov (.t 5)⟩,
 ⟨some 171, none, .bin .geq (.t 170) (.c (.int .i64 2))⟩,
 ⟨some 172, none, .mov (.t 171)⟩,
 ⟨some 173, (some (172, true)), .mov (.t 5)⟩,
 ⟨some 174, (some (172, true)), .bin .leq (.t 173) (.c (.int .i64 8))⟩,
 ⟨some 175, none, .pick (.t 172) (.t 174) (.c (.bool false))⟩,
 ⟨some 176, none, .mov (.t 175)⟩,
 ⟨some 177, (some (176, true)), .fad 5 (.t 2)⟩,
 ⟨some 178, (some (176, true)), .ld false 1 (.t 177)⟩,
 ⟨some 179, (some (176, true)), .len (.t 178)⟩,
 ⟨some 180, (some (176, true)), .bin .eql (.t 179) (.c (.int .i64 0))⟩,
 ⟨some 181, none, .pick (.t 176) (.t 180) (.c (.bool false))⟩,
 ⟨some 4, none, .mov (.t 181)⟩] (some [4]))
 (.ret)) (.seq (.rg [⟨some 183, none, .bin .eql (.t 147) (.c (.int .i64 6))⟩,
 ⟨some 182, none, .mov (.t 183)⟩] (some [2, 5, 182]))
 (.cond (.t 182) (.seq (.rg [⟨some 184, none, .mov (.t 5)⟩,
 ⟨some 185, none, .bin .geq (.t 184) (.c (.int .i64 1))⟩,
 ⟨some 186, none, .mov (.t 185)⟩,
 ⟨some 187, (some (186, true)), .mov (.t 5)⟩,
 ⟨some 188, (some (186, true)), .bin .leq (.t 187) (.c (.int .i64 8))⟩,
 ⟨some 189, none, .pick (.t 186) (.t 188) (.c (.bool false))⟩,
 ⟨some 190, none, .mov (.t 189)⟩,
 ⟨some 191, (some (190, true)), .fad 5 (.t 2)⟩,
 ⟨some 192, (some (190, true)), .ld false 1 (.t 191)⟩,
 ⟨some 193, (some (190, true)), .len (.t 192)⟩,
 ⟨some 194, (some (190, true)), .mov (.t 5)⟩,
 ⟨some 195, (some (190, true)), .bin .rem (.t 193) (.t 194)⟩,
 ⟨some 196, (some (190, true)), .bin .eql (.t 195) (.c (.int .i64 0))⟩,
 ⟨some 197, none, .pick (.t 190) (.t 196) (.c (.bool false))⟩,
 ⟨some 4, none, .mov (.t 197)⟩] (some [4]))
 (.ret)) (.skip)))))))))))
 (.seq (.rg [⟨some 4, none, .mov (.c (.bool false))⟩] (some [4]))
 (.ret)))))))
def F_ref08_Right : F := ⟨i_ref08_Right, [(4, none)], false⟩
def b_ref08_Name_0 : IR := .seq (.seq (.rg [⟨some 8, none, .mov (.t 4)⟩,
 ⟨some 9, none, .mov (.t 3)⟩,
 ⟨some 10, none, .len (.t 9)⟩,
 ⟨some 11, none, .bin .lss (.t 8) (.t 10)⟩] (some [0, 3, 4, 11]))
 (.cond (.t 11) (.skip) (.ext 0)))
 (.seq (.blk 1 (.seq (.rg [⟨some 14, none, .mov (.t 0)⟩,
 ⟨some 15, none, .mov (.t 3)⟩,
 ⟨some 16, none, .mov (.t 4)⟩,
 ⟨some 17, none, .iad 1 (.t 15) (.t 16)⟩,
 ⟨some 18, none, .ld false 1 (.t 17)⟩,
 ⟨some 19, none, .bin .eql (.t 14) (.t 18)⟩] (some [0, 3, 4, 19]))
 (.cond (.t 19) (.seq (.rg [⟨some 2, none, .mov (.c (.bool false))⟩] (some [2]))
 (.ret)) (.skip))))
 (.rg [⟨some 12, none, .mov (.t 4)⟩,
 ⟨some 13, none, .bin .add (.t 12) (.c (.int .i64 1))⟩,
 ⟨some 4, none, .mov (.t 13)⟩] (some [0, 3, 4])))
def i_ref08_Name_l0 : IR := .loop b_ref08_Name_0
def b_ref08_Name_1 : IR := .seq (.seq (.rg [⟨some 20, none, .mov (.t 5)⟩,
 ⟨some 21, none, .mov (.t 0)⟩,
 ⟨some 22, none, .slen (.t 21)⟩,
 ⟨some 23, none, .bin .lss (.t 20) (.t 22)⟩] (some [0, 5, 23]))
 (.cond (.t 23) (.skip) (.ext 2)))
 (.seq (.blk 3 (.seq (.rg [⟨some 26, none, .mov (.t 0)⟩,
 ⟨some 27, none, .mov (.t 5)⟩,
 ⟨some 28, none, .ixs (.t 26) (.t 27)⟩,
 ⟨some 29, none, .bin .geq (.t 28) (.c (.int .u8 97))⟩,
 ⟨some 30, none, .mov (.t 29)⟩,
 ⟨some 31, (some (30, true)), .mov (.t 0)⟩,
 ⟨some 32, (some (30, true)), .mov (.t 5)⟩,
 ⟨some 33, (some (30, true)), .ixs (.t 31) (.t 32)⟩,
 ⟨some 34, (some (30, true)), .bin .leq (.t 33) (.c (.int .u8 122))⟩,
 ⟨some 35, none, .pick (.t 30) (.t 34) (.c (.bool false))⟩,
 ⟨some 6, none, .mov (.t 35)⟩] (some [0, 5, 6]))
 (.seq (.rg [⟨some 36, none, .mov (.t 6)⟩,
 ⟨some 37, none, .un .not (.t 36)⟩,
 ⟨some 38, none, .mov (.t 37)⟩,
 ⟨some 39, (some (38, true)), .mov (.t 5)⟩,
 ⟨some 40, (some (38, true)), .bin .eql (.t 39) (.c (.int .i64 0))⟩,
 ⟨some 41, (some (38, true)), .mov (.t 40)⟩,
 ⟨some 42, (some (41, false)), .mov (.t 0)⟩,
 ⟨some 43, (some (41, false)), .mov (.t 5)⟩,
 ⟨some 44, (some (41, false)), .ixs (.t 42) (.t 43)⟩,
 ⟨some 45, (some (41, false)), .bin .neq (.t 44) (.c (.int .u8 95))⟩,
 ⟨some 46, (some (41, false)), .mov (.t 45)⟩,
 ⟨some 47, (some (46, true)), .mov (.t 0)⟩,
 ⟨some 48, (some (46, true)), .mov (.t 5)⟩,
 ⟨some 49, (some (46, true)), .ixs (.t 47) (.t 48)⟩,
 ⟨some 50, (some (46, true)), .bin .lss (.t 49) (.c (.int .u8 48))⟩,
 ⟨some 51, (some (46, true)), .mov (.t 50)⟩,
 ⟨some 52, (some (51, false)), .mov (.t 0)⟩,
 ⟨some 53, (some (51, false)), .mov (.t 5)⟩,
 ⟨some 54, (some (51, false)), .ixs (.t 52) (.t 53)⟩,
 ⟨some 55, (some (51, false)), .bin .gtr (.t 54) (.c (.int .u8 57))⟩,
 ⟨some 56, (some (46, true)), .pick (.t 51) (.c (.bool true)) (.t 55)⟩,
 ⟨some 57, (some (41, false)), .pick (.t 46) (.t 56) (.c (.bool false))⟩,
 ⟨some 58, (some (38, true)), .pick (.t 41) (.c (.bool true)) (.t 57)⟩,
 ⟨some 59, none, .pick (.t 38) (.t 58) (.c (.bool false))⟩] (some [0, 5, 59]))
 (.cond (.t 59) (.seq (.rg [⟨some 2, none, .mov (.c (.bool false))⟩] (some [2]))
 (.ret)) (.skip)))))
 (.rg [⟨some 24, none, .mov (.t 5)⟩,
 ⟨some 25, none, .bin .add (.t 24) (.c (.int .i64 1))⟩,
 ⟨some 5, none, .mov (.t 25)⟩] (some [0, 5])))
def i_ref08_Name_l1 : IR := .loop b_ref08_Name_1
theorem r_ref08_Name_1 {C : Cx} {Y : Yl} {fr : Fr} {h : List Ob} : evw C Y i_ref08_Name_l1 fr h = nxt (evw C Y b_ref08_Name_1 fr h) fun fr h => evw C Y i_ref08_Name_l1 fr h := w_loop
def i_ref08_Name : IR := .seq (.rg [⟨some 2, none, .mov (.c (.bool false))⟩] (some [0]))
 (.seq (.rg [⟨some 7, none, .bsl (.str []) 12 [(0, (.c (.str [101, 120, 105, 115, 116, 115]))), (1, (.c (.str [102, 111, 114, 97, 108, 108]))), (2, (.c (.str [105, 110]))), (3, (.c (.str [119, 104, 101, 114, 101]))), (4, (.c (.str [97, 110, 100]))), (5, (.c (.str [103, 111, 97, 108]))), (6, (.c (.str [116, 114, 117, 101]))), (7, (.c (.str [112, 114, 111, 100, 117, 99, 116]))), (8, (.c (.str [105, 102, 102]))), (9, (.c (.str [101, 108, 101, 109, 101, 110, 116]))), (10, (.c (.str [100, 105, 102, 102, 101, 114, 101, 110, 116]))), (11, (.c (.str [116, 97, 98, 108, 101])))]⟩,
 ⟨some 3, none, .mov (.t 7)⟩] (some [0, 3]))
 (.seq (.seq (.rg [⟨some 4, none, .mov (.c (.int .i64 0))⟩] (some [0, 3, 4]))
 (.blk 0 (i_ref08_Name_l0)))
 (.seq (.seq (.rg [⟨some 5, none, .mov (.c (.int .i64 0))⟩] (some [0, 5]))
 (.blk 2 (i_ref08_Name_l1)))
 (.seq (.rg [⟨some 60, none, .mov (.t 0)⟩,
 ⟨some 61, none, .slen (.t 60)⟩,
 ⟨some 62, none, .bin .geq (.t 61) (.c (.int .i64 1))⟩,
 ⟨some 63, none, .mov (.t 62)⟩,
 ⟨some 64, (some (63, true)), .mov (.t 0)⟩,
 ⟨some 65, (some (63, true)), .slen (.t 64)⟩,
 ⟨some 66, (some (63, true)), .bin .leq (.t 65) (.c (.int .i64 12))⟩,
 ⟨some 67, none, .pick (.t 63) (.t 66) (.c (.bool false))⟩,
 ⟨some 2, none, .mov (.t 67)⟩] (some [2]))
 (.ret)))))
def F_ref08_Name : F := ⟨i_ref08_Name, [(2, none)], false⟩
def b_ref03_Size_0 : IR := .seq (.seq (.rg [⟨some 5, none, .mov (.t 4)⟩,
 ⟨some 6, none, .mov (.t 0)⟩,
 ⟨some 7, none, .len (.t 6)⟩,
 ⟨some 8, none, .bin .lss (.t 5) (.t 7)⟩,
 ⟨some 9, none, .mov (.t 8)⟩,
 ⟨some 10, (some (9, true)), .mov (.t 0)⟩,
 ⟨some 11, (some (9, true)), .call n_ref03_Right [(.t 10)]⟩,
 ⟨some 12, none, .pick (.t 9) (.t 11) (.c (.bool false))⟩] (some [0, 3, 4, 12]))
 (.cond (.t 12) (.skip) (.ext 0)))
 (.seq (.blk 1 (.dq [(⟨some 15, none, .mov (.t 3)⟩, []),
 (⟨some 16, none, .mov (.t 0)⟩, []),
 (⟨some 17, none, .mov (.t 4)⟩, []),
 (⟨some 18, none, .iad 2 (.t 16) (.t 17)⟩, [1, 2]),
 (⟨some 19, none, .fad 1 (.t 18)⟩, [1, 2, 3]),
 (⟨some 20, none, .ld false 1 (.t 19)⟩, [1, 2, 3, 4]),
 (⟨some 21, none, .bin .add (.t 15) (.t 20)⟩, [0, 1, 2, 3, 4, 5]),
 (⟨some 22, none, .bin .add (.t 21) (.c (.int .i64 1))⟩, [0, 1, 2, 3, 4, 5, 6]),
 (⟨some 23, none, .mov (.t 0)⟩, []),
 (⟨some 24, none, .mov (.t 4)⟩, []),
 (⟨some 25, none, .iad 2 (.t 23) (.t 24)⟩, [8, 9]),
 (⟨some 26, none, .fad 0 (.t 25)⟩, [8, 9, 10]),
 (⟨some 27, none, .ld false 1 (.t 26)⟩, [8, 9, 10, 11]),
 (⟨some 28, none, .bin .sub (.t 22) (.t 27)⟩, [0, 1, 2, 3, 4, 5, 6, 7, 8, 9, 10, 11, 12]),
 (⟨some 3, none, .mov (.t 28)⟩, [0, 1, 2, 3, 4, 5, 6, 7, 8, 9, 10, 11, 12, 13])] (some [0, 3, 4])))
 (.rg [⟨some 13, none, .mov (.t 4)⟩,
 ⟨some 14, none, .bin .add (.t 13) (.c (.int .i64 1))⟩,
 ⟨some 4, none, .mov (.t 14)⟩] (some [0, 3, 4])))
def i_ref03_Size_l0 : IR := .loop b_ref03_Size_0
theorem r_ref03_Size_0 {C : Cx} {Y : Yl} {fr : Fr} {h : List Ob} : evw C Y i_ref03_Size_l0 fr h = nxt (evw C Y b_ref03_Size_0 fr h) fun fr h => evw C Y i_ref03_Size_l0 fr h := w_loop
def i_ref03_Size : IR := .seq (.rg [⟨some 2, none, .mov (.c (.int .i64 0))⟩] (some [0]))
 (.seq (.rg [⟨some 3, none, .mov (.c (.int .i64 0))⟩] (some [0, 3]))
 (.seq (.seq (.rg [⟨some 4, none, .mov (.c (.int .i64 0))⟩] (some [0, 3, 4]))
 (.blk 0 (i_ref03_Size_l0)))
 (.seq (.rg [⟨some 29, none, .mov (.t 3)⟩,
 ⟨some 2, none, .mov (.t 29)⟩] (some [2]))
 (.ret))))
def F_ref03_Size : F := ⟨i_ref03_Size, [(2, none)], false⟩
def b_tree_sharer_walk_0 : IR := .seq (.rg [⟨some 40, none, .bin .lss (.t 39) (.t 38)⟩] (some [0, 1, 2, 3, 9, 37, 38, 39, 40]))
 (.seq (.cond (.t 40) (.skip) (.ext 0))
 (.seq (.blk 1 (.seq (.rg [⟨some 41, none, .iad 1 (.t 37) (.t 39)⟩,
 ⟨some 42, none, .ld false 1 (.t 41)⟩,
 ⟨some 11, none, .mov (.t 42)⟩] (some [0, 1, 2, 3, 9, 11, 37, 38, 39]))
 (.dc [(⟨some 43, none, .fad 2 (.t 9)⟩, [], false),
 (⟨some 44, none, .ld false 1 (.t 43)⟩, [0], false),
 (⟨some 45, none, .mov (.t 0)⟩, [], false),
 (⟨some 46, none, .mov (.t 1)⟩, [], false),
 (⟨some 47, none, .mov (.t 11)⟩, [], false),
 (⟨some 48, none, .mov (.t 3)⟩, [], false),
 (⟨some 49, none, .call n_tree_sharer_walk [(.t 45), (.t 46), (.t 47), (.t 48)]⟩, [2, 3, 4, 5], true),
 (⟨some 50, none, .bsf (.int .i64 0) 1 [(0, (.t 49))]⟩, [2, 3, 4, 5, 6], false),
 (⟨some 51, none, .app 1 8 (.t 44) (.t 50)⟩, [0, 1, 2, 3, 4, 5, 6, 7], true),
 (⟨some 52, none, .fad 2 (.t 9)⟩, [0, 1, 2, 3, 4, 5, 6, 7, 8], false),
 (⟨none, none, .st 1 (.t 52) (.t 51)⟩, [0, 1, 2, 3, 4, 5, 6, 7, 8, 9], true)] (some [0, 1, 2, 3, 9, 37, 38, 39]))))
 (.rg [⟨some 53, none, .bin .add (.t 39) (.c (.int .i64 1))⟩,
 ⟨some 39, none, .mov (.t 53)⟩] (some [0, 1, 2, 3, 9, 37, 38, 39]))))
def i_tree_sharer_walk_l0 : IR := .loop b_tree_sharer_walk_0
theorem r_tree_sharer_walk_0 {C : Cx} {Y : Yl} {fr : Fr} {h : List Ob} : evw C Y i_tree_sharer_walk_l0 fr h = nxt (evw C Y b_tree_sharer_walk_0 fr h) fun fr h => evw C Y i_tree_sharer_walk_l0 fr h := w_loop
def i_tree_sharer_walk : IR := .seq (.rg [⟨some 8, none, .mov (.c (.int .i64 0))⟩] (some [0, 1, 2, 3]))
 (.seq (.seq (.rg [⟨some 12, none, .mov (.t 3)⟩,
 ⟨some 13, none, .mov (.t 2)⟩,
 ⟨some 14, none, .iad 1 (.t 12) (.t 13)⟩,
 ⟨some 15, none, .ld false 1 (.t 14)⟩,
 ⟨some 16, none, .bin .gtr (.t 15) (.c (.int .i64 0))⟩] (some [0, 1, 2, 3, 16]))
 (.cond (.t 16) (.seq (.rg [⟨some 17, none, .mov (.t 3)⟩,
 ⟨some 18, none, .mov (.t 2)⟩,
 ⟨some 19, none, .iad 1 (.t 17) (.t 18)⟩,
 ⟨some 20, none, .ld false 1 (.t 19)⟩,
 ⟨some 21, none, .bin .sub (.t 20) (.c (.int .i64 1))⟩,
 ⟨some 8, none, .mov (.t 21)⟩] (some [8]))
 (.ret)) (.skip)))
 (.seq (.dc [(⟨some 22, none, .mov (.t 1)⟩, [], false),
 (⟨some 23, none, .mov (.t 2)⟩, [], false),
 (⟨some 24, none, .iad 3 (.t 22) (.t 23)⟩, [0, 1], false),
 (⟨some 25, none, .fad 0 (.t 24)⟩, [0, 1, 2], false),
 (⟨some 26, none, .ld false 1 (.t 25)⟩, [0, 1, 2, 3], false),
 (⟨some 27, none, .mov (.t 1)⟩, [], false),
 (⟨some 28, none, .mov (.t 2)⟩, [], false),
 (⟨some 29, none, .iad 3 (.t 27) (.t 28)⟩, [5, 6], false),
 (⟨some 30, none, .fad 1 (.t 29)⟩, [5, 6, 7], false),
 (⟨some 31, none, .ld false 1 (.t 30)⟩, [5, 6, 7, 8], false),
 (⟨some 32, none, .bld [.int .i64 0, .int .i64 0, .nsl 1] [(0, 1, (.t 26)), (1, 1, (.t 31))]⟩, [0, 1, 2, 3, 4, 5, 6, 7, 8, 9], false),
 (⟨some 9, none, .new (.agg [.int .i64 0, .int .i64 0, .nsl 1])⟩, [], true),
 (⟨none, none, .st 3 (.t 9) (.t 32)⟩, [0, 1, 2, 3, 4, 5, 6, 7, 8, 9, 10, 11], true)] (some [0, 1, 2, 3, 9]))
 (.seq (.seq (.rg [⟨some 33, none, .mov (.t 1)⟩,
 ⟨some 34, none, .mov (.t 2)⟩,
 ⟨some 35, none, .iad 3 (.t 33) (.t 34)⟩,
 ⟨some 36, none, .fad 2 (.t 35)⟩,
 ⟨some 37, none, .ld false 1 (.t 36)⟩,
 ⟨some 38, none, .len (.t 37)⟩,
 ⟨some 39, none, .mov (.c (.int .i64 0))⟩] (some [0, 1, 2, 3, 9, 37, 38, 39]))
 (.blk 0 (i_tree_sharer_walk_l0)))
 (.seq (.rg [⟨some 54, none, .mov (.t 3)⟩,
 ⟨some 55, none, .mov (.t 2)⟩,
 ⟨some 56, none, .mov (.t 0)⟩,
 ⟨some 57, none, .fzd true 3 (.t 9)⟩,
 ⟨some 58, none, .call n_tree_sharer_put [(.t 56), (.t 57)]⟩,
 ⟨some 59, none, .bin .add (.t 58) (.c (.int .i64 1))⟩,
 ⟨some 60, none, .iad 1 (.t 54) (.t 55)⟩,
 ⟨none, none, .st 1 (.t 60) (.t 59)⟩] (some [2, 3]))
 (.seq (.rg [⟨some 61, none, .mov (.t 3)⟩,
 ⟨some 62, none, .mov (.t 2)⟩,
 ⟨some 63, none, .iad 1 (.t 61) (.t 62)⟩,
 ⟨some 64, none, .ld false 1 (.t 63)⟩,
 ⟨some 65, none, .bin .sub (.t 64) (.c (.int .i64 1))⟩,
 ⟨some 8, none, .mov (.t 65)⟩] (some [8]))
 (.ret))))))
def F_tree_sharer_walk : F := ⟨i_tree_sharer_walk, [(8, none)], true⟩
def b_law08_cons_0 : IR := .seq (.rg [⟨some 11, none, .bin .lss (.t 10) (.t 9)⟩] (some [8, 9, 10, 11]))
 (.seq (.cond (.t 11) (.skip) (.ext 0))
 (.seq (.blk 1 (.seq (.rg [⟨some 12, none, .iad 6 (.t 8) (.t 10)⟩,
 ⟨some 13, none, .ld true 6 (.t 12)⟩,
 ⟨some 4, none, .new (.agg [.int .i64 0, .nsl 1, .nsl 1, .int .i64 0, .int .i64 0, .nsl 1])⟩,
 ⟨none, none, .st 6 (.t 4) (.t 13)⟩] (some [4, 8, 9, 10]))
 (.seq (.rg [⟨some 14, none, .fad 1 (.t 4)⟩,
 ⟨some 15, none, .ld false 1 (.t 14)⟩,
 ⟨some 16, none, .len (.t 15)⟩,
 ⟨some 17, none, .bin .gtr (.t 16) (.c (.int .i64 150))⟩,
 ⟨some 18, none, .mov (.t 17)⟩,
 ⟨some 19, (some (18, false)), .fad 2 (.t 4)⟩,
 ⟨some 20, (some (18, false)), .ld false 1 (.t 19)⟩,
 ⟨some 21, (some (18, false)), .len (.t 20)⟩,
 ⟨some 22, (some (18, false)), .bin .gtr (.t 21) (.c (.int .i64 150))⟩,
 ⟨some 23, none, .pick (.t 18) (.c (.bool true)) (.t 22)⟩,
 ⟨some 24, none, .mov (.t 23)⟩,
 ⟨some 25, (some (24, false)), .fad 5 (.t 4)⟩,
 ⟨some 26, (some (24, false)), .ld false 1 (.t 25)⟩,
 ⟨some 27, (some (24, false)), .len (.t 26)⟩,
 ⟨some 28, (some (24, false)), .bin .gtr (.t 27) (.c (.int .i64 150))⟩,
 ⟨some 29, none, .pick (.t 24) (.c (.bool true)) (.t 28)⟩] (some [8, 9, 10, 29]))
 (.cond (.t 29) (.seq (.rg [⟨some 2, none, .mov (.c (.bool true))⟩] (some [2]))
 (.ret)) (.skip)))))
 (.rg [⟨some 30, none, .bin .add (.t 10) (.c (.int .i64 1))⟩,
 ⟨some 10, none, .mov (.t 30)⟩] (some [8, 9, 10]))))
def i_law08_cons_l0 : IR := .loop b_law08_cons_0
theorem r_law08_cons_0 {C : Cx} {Y : Yl} {fr : Fr} {h : List Ob} : evw C Y i_law08_cons_l0 fr h = nxt (evw C Y b_law08_cons_0 fr h) fun fr h => evw C Y i_law08_cons_l0 fr h := w_loop
def i_law08_cons : IR := .seq (.rg [⟨some 2, none, .mov (.c (.bool false))⟩] (some [0]))
 (.seq (.seq (.rg [⟨some 5, none, .mov (.t 0)⟩,
 ⟨some 6, none, .len (.t 5)⟩,
 ⟨some 7, none, .bin .gtr (.t 6) (.c (.int .i64 30))⟩] (some [0, 7]))
 (.cond (.t 7) (.seq (.rg [⟨some 2, none, .mov (.c (.bool true))⟩] (some [2]))
 (.ret)) (.skip)))
 (.seq (.seq (.rg [⟨some 8, none, .mov (.t 0)⟩,
 ⟨some 9, none, .len (.t 8)⟩,
 ⟨some 10, none, .mov (.c (.int .i64 0))⟩] (some [8, 9, 10]))
 (.blk 0 (i_law08_cons_l0)))
 (.seq (.rg [⟨some 2, none, .mov (.c (.bool false))⟩] (some [2]))
 (.ret))))
def F_law08_cons : F := ⟨i_law08_cons, [(2, none)], false⟩
def i_model_big : IR := .seq (.rg [⟨some 1, none, .box (.t 0)⟩,
 ⟨some 2, none, .mov (.c (.bool false))⟩] (some [1]))
 (.seq (.rg [⟨some 3, none, .fad 0 (.t 1)⟩,
 ⟨some 4, none, .ld false 1 (.t 3)⟩,
 ⟨some 5, none, .len (.t 4)⟩,
 ⟨some 6, none, .bin .gtr (.t 5) (.c (.int .i64 8))⟩,
 ⟨some 7, none, .mov (.t 6)⟩,
 ⟨some 8, (some (7, false)), .ld true 2 (.t 1)⟩,
 ⟨some 9, (some (7, false)), .call n_model_Vars [(.t 8)]⟩,
 ⟨some 10, (some (7, false)), .len (.t 9)⟩,
 ⟨some 11, (some (7, false)), .bin .gtr (.t 10) (.c (.int .i64 16))⟩,
 ⟨some 12, none, .pick (.t 7) (.c (.bool true)) (.t 11)⟩,
 ⟨some 13, none, .mov (.t 12)⟩,
 ⟨some 14, (some (13, false)), .fad 1 (.t 1)⟩,
 ⟨some 15, (some (13, false)), .ld false 1 (.t 14)⟩,
 ⟨some 16, (some (13, false)), .len (.t 15)⟩,
 ⟨some 17, (some (13, false)), .bin .gtr (.t 16) (.c (.int .i64 16))⟩,
 ⟨some 18, none, .pick (.t 13) (.c (.bool true)) (.t 17)⟩,
 ⟨some 19, none, .mov (.t 18)⟩,
 ⟨some 20, (some (19, false)), .fad 0 (.t 1)⟩,
 ⟨some 21, (some (19, false)), .ld false 1 (.t 20)⟩,
 ⟨some 22, (some (19, false)), .call n_slices_ContainsFunc_sapi_Block_api_Block [(.t 21), (.c (.fn (.func n_model_big_1) [] []))]⟩,
 ⟨some 23, none, .pick (.t 19) (.c (.bool true)) (.t 22)⟩,
 ⟨some 2, none, .mov (.t 23)⟩] (some [2]))
 (.ret))
def F_model_big : F := ⟨i_model_big, [(2, none)], false⟩
def i_slices_ContainsFunc_sapi_Block_api_Block : IR := .seq (.rg [⟨some 4, none, .mov (.c (.bool false))⟩] (some [0, 1]))
 (.seq (.rg [⟨some 5, none, .mov (.t 0)⟩,
 ⟨some 6, none, .mov (.t 1)⟩,
 ⟨some 7, none, .call n_slices_IndexFunc_sapi_Block_api_Block [(.t 5), (.t 6)]⟩,
 ⟨some 8, none, .bin .geq (.t 7) (.c (.int .i64 0))⟩,
 ⟨some 4, none, .mov (.t 8)⟩] (some [4]))
 (.ret))
def F_slices_ContainsFunc_sapi_Block_api_Block : F := ⟨i_slices_ContainsFunc_sapi_Block_api_Block, [(4, none)], false⟩
def i_model_Check_1 : IR := .seq (.rg [⟨some 1, none, .box (.t 0)⟩,
 ⟨some 2, none, .mov (.c (.bool false))⟩] (some [1]))
 (.seq (.rg [⟨some 3, none, .fad 1 (.t 1)⟩,
 ⟨some 4, none, .ld false 1 (.t 3)⟩,
 ⟨some 5, none, .len (.t 4)⟩,
 ⟨some 6, none, .bin .eql (.t 5) (.c (.int .i64 0))⟩,
 ⟨some 2, none, .mov (.t 6)⟩] (some [2]))
 (.ret))
def F_model_Check_1 : F := ⟨i_model_Check_1, [(2, none)], false⟩
def b_model_Vars_0 : IR := .seq (.rg [⟨some 19, none, .bin .lss (.t 18) (.t 17)⟩] (some [3, 9, 10, 11, 16, 17, 18, 19]))
 (.seq (.cond (.t 19) (.skip) (.ext 2))
 (.seq (.blk 3 (.seq (.rg [⟨some 20, none, .iad 2 (.t 16) (.t 18)⟩,
 ⟨some 21, none, .ld true 2 (.t 20)⟩,
 ⟨some 7, none, .new (.agg [.str [], .nsl 2])⟩,
 ⟨none, none, .st 2 (.t 7) (.t 21)⟩] (some [3, 7, 9, 10, 11, 16, 17, 18]))
 (.dq [(⟨some 22, none, .mov (.t 3)⟩, []),
 (⟨some 23, none, .fad 0 (.t 7)⟩, []),
 (⟨some 24, none, .ld false 1 (.t 23)⟩, [1]),
 (⟨some 25, none, .fad 1 (.t 7)⟩, []),
 (⟨some 26, none, .ld false 1 (.t 25)⟩, [3]),
 (⟨some 27, none, .call n_slices_Clone_sapi_Span_api_Span [(.t 26)]⟩, [3, 4]),
 (⟨some 28, none, .bld [.str [], .nsl 2] [(0, 1, (.t 24)), (1, 1, (.t 27))]⟩, [1, 2, 3, 4, 5]),
 (⟨some 29, none, .bsf (.agg [.str [], .nsl 2]) 1 [(0, (.t 28))]⟩, [1, 2, 3, 4, 5, 6]),
 (⟨some 30, none, .app 2 40 (.t 22) (.t 29)⟩, [0, 1, 2, 3, 4, 5, 6, 7]),
 (⟨some 3, none, .mov (.t 30)⟩, [0, 1, 2, 3, 4, 5, 6, 7, 8])] (some [3, 9, 10, 11, 16, 17, 18]))))
 (.rg [⟨some 31, none, .bin .add (.t 18) (.c (.int .i64 1))⟩,
 ⟨some 18, none, .mov (.t 31)⟩] (some [3, 9, 10, 11, 16, 17, 18]))))
def i_model_Vars_l0 : IR := .loop b_model_Vars_0
theorem r_model_Vars_0 {C : Cx} {Y : Yl} {fr : Fr} {h : List Ob} : evw C Y i_model_Vars_l0 fr h = nxt (evw C Y b_model_Vars_0 fr h) fun fr h => evw C Y i_model_Vars_l0 fr h := w_loop
def b_model_Vars_1 : IR := .seq (.rg [⟨some 12, none, .bin .lss (.t 11) (.t 10)⟩] (some [3, 9, 10, 11, 12]))
 (.seq (.cond (.t 12) (.skip) (.ext 0))
 (.seq (.blk 1 (.seq (.rg [⟨some 13, none, .iad 3 (.t 9) (.t 11)⟩,
 ⟨some 14, none, .ld true 3 (.t 13)⟩,
 ⟨some 5, none, .new (.agg [.bool false, .nsl 2, .nsl 6])⟩,
 ⟨none, none, .st 3 (.t 5) (.t 14)⟩] (some [3, 5, 9, 10, 11]))
 (.seq (.rg [⟨some 15, none, .fad 1 (.t 5)⟩,
 ⟨some 16, none, .ld false 1 (.t 15)⟩,
 ⟨some 17, none, .len (.t 16)⟩,
 ⟨some 18, none, .mov (.c (.int .i64 0))⟩] (some [3, 9, 10, 11, 16, 17, 18]))
 (.blk 2 (i_model_Vars_l0)))))
 (.rg [⟨some 32, none, .bin .add (.t 11) (.c (.int .i64 1))⟩,
 ⟨some 11, none, .mov (.t 32)⟩] (some [3, 9, 10, 11]))))
def i_model_Vars_l1 : IR := .loop b_model_Vars_1
theorem r_model_Vars_1 {C : Cx} {Y : Yl} {fr : Fr} {h : List Ob} : evw C Y i_model_Vars_l1 fr h = nxt (evw C Y b_model_Vars_1 fr h) fun fr h => evw C Y i_model_Vars_l1 fr h := w_loop
def i_model_Vars : IR := .seq (.rg [⟨some 1, none, .box (.t 0)⟩,
 ⟨some 2, none, .mov (.c (.nsl 2))⟩] (some [1]))
 (.seq (.rg [⟨some 3, none, .mov (.c (.nsl 2))⟩] (some [1, 3]))
 (.seq (.seq (.rg [⟨some 8, none, .fad 0 (.t 1)⟩,
 ⟨some 9, none, .ld false 1 (.t 8)⟩,
 ⟨some 10, none, .len (.t 9)⟩,
 ⟨some 11, none, .mov (.c (.int .i64 0))⟩] (some [3, 9, 10, 11]))
 (.blk 0 (i_model_Vars_l1)))
 (.seq (.rg [⟨some 33, none, .mov (.t 3)⟩,
 ⟨some 2, none, .mov (.t 33)⟩] (some [2]))
 (.ret))))
def F_model_Vars : F := ⟨i_model_Vars, [(2, none)], false⟩
def i_slices_ContainsFunc_sapi_Decl_api_Decl : IR := .seq (.rg [⟨some 4, none, .mov (.c (.bool false))⟩] (some [0, 1]))
 (.seq (.rg [⟨some 5, none, .mov (.t 0)⟩,
 ⟨some 6, none, .mov (.t 1)⟩,
 ⟨some 7, none, .call n_slices_IndexFunc_sapi_Decl_api_Decl [(.t 5), (.t 6)]⟩,
 ⟨some 8, none, .bin .geq (.t 7) (.c (.int .i64 0))⟩,
 ⟨some 4, none, .mov (.t 8)⟩] (some [4]))
 (.ret))
def F_slices_ContainsFunc_sapi_Decl_api_Decl : F := ⟨i_slices_ContainsFunc_sapi_Decl_api_Decl, [(4, none)], false⟩
def i_model_Check_2 : IR := .seq (.rg [⟨some 1, none, .box (.t 0)⟩,
 ⟨some 2, none, .mov (.c (.bool false))⟩] (some [1]))
 (.seq (.rg [⟨some 3, none, .fad 0 (.t 1)⟩,
 ⟨some 4, none, .ld false 1 (.t 3)⟩,
 ⟨some 5, none, .call n_model_Name [(.t 4)]⟩,
 ⟨some 6, none, .un .not (.t 5)⟩,
 ⟨some 2, none, .mov (.t 6)⟩] (some [2]))
 (.ret))
def F_model_Check_2 : F := ⟨i_model_Check_2, [(2, none)], false⟩
def i_model_Name : IR := .seq (.rg [⟨some 2, none, .mov (.c (.bool false))⟩] (some [0]))
 (.seq (.seq (.rg [⟨some 3, none, .mov (.t 0)⟩,
 ⟨some 4, none, .bin .eql (.t 3) (.c (.str []))⟩,
 ⟨some 5, none, .mov (.t 4)⟩,
 ⟨some 6, (some (5, false)), .mov (.t 0)⟩,
 ⟨some 7, (some (5, false)), .slen (.t 6)⟩,
 ⟨some 8, (some (5, false)), .bin .gtr (.t 7) (.c (.int .i64 12))⟩,
 ⟨some 9, none, .pick (.t 5) (.c (.bool true)) (.t 8)⟩,
 ⟨some 10, none, .mov (.t 9)⟩,
 ⟨some 11, (some (10, false)), .mov (.t 0)⟩,
 ⟨some 12, (some (10, false)), .ixs (.t 11) (.c (.int .i64 0))⟩,
 ⟨some 13, (some (10, false)), .bin .lss (.t 12) (.c (.int .u8 97))⟩,
 ⟨some 14, none, .pick (.t 10) (.c (.bool true)) (.t 13)⟩,
 ⟨some 15, none, .mov (.t 14)⟩,
 ⟨some 16, (some (15, false)), .mov (.t 0)⟩,
 ⟨some 17, (some (15, false)), .ixs (.t 16) (.c (.int .i64 0))⟩,
 ⟨some 18, (some (15, false)), .bin .gtr (.t 17) (.c (.int .u8 122))⟩,
 ⟨some 19, none, .pick (.t 15) (.c (.bool true)) (.t 18)⟩,
 ⟨some 20, none, .mov (.t 19)⟩,
 ⟨some 21, (some (20, false)), .mov (.t 0)⟩,
 ⟨some 22, (some (20, false)), .bin .add (.c (.str [32])) (.t 21)⟩,
 ⟨some 23, (some (20, false)), .bin .add (.t 22) (.c (.str [32]))⟩,
 ⟨some 24, (some (20, false)), .call n_strings_Contains [(.c (.str [32, 101, 120, 105, 115, 116, 115, 32, 102, 111, 114, 97, 108, 108, 32, 105, 110, 32, 119, 104, 101, 114, 101, 32, 97, 110, 100, 32, 103, 111, 97, 108, 32, 116, 114, 117, 101, 32, 112, 114, 111, 100, 117, 99, 116, 32, 105, 102, 102, 32, 101, 108, 101, 109, 101, 110, 116, 32, 100, 105, 102, 102, 101, 114, 101, 110, 116, 32, 116, 97, 98, 108, 101, 32])), (.t 23)]⟩,
 ⟨some 25, none, .pick (.t 20) (.c (.bool true)) (.t 24)⟩] (some [0, 25]))
 (.cond (.t 25) (.seq (.rg [⟨some 2, none, .mov (.c (.bool false))⟩] (some [2]))
 (.ret)) (.skip)))
 (.seq (.rg [⟨some 26, none, .mov (.t 0)⟩,
 ⟨some 27, none, .call n_strings_Trim [(.t 26), (.c (.str [97, 98, 99, 100, 101, 102, 103, 104, 105, 106, 107, 108, 109, 110, 111, 112, 113, 114, 115, 116, 117, 118, 119, 120, 121, 122, 48, 49, 50, 51, 52, 53, 54, 55, 56, 57, 95]))]⟩,
 ⟨some 28, none, .bin .eql (.t 27) (.c (.str []))⟩,
 ⟨some 2, none, .mov (.t 28)⟩] (some [2]))
 (.ret)))
def F_model_Name : F := ⟨i_model_Name, [(2, none)], false⟩
def i_model_Check_3 : IR := .seq (.rg [⟨some 2, none, .box (.t 0)⟩,
 ⟨some 3, none, .mov (.c (.bool false))⟩] (some [1, 2]))
 (.seq (.rg [⟨some 4, none, .fad 0 (.t 2)⟩,
 ⟨some 5, none, .ld false 1 (.t 4)⟩,
 ⟨some 6, none, .fad 0 (.t 1)⟩,
 ⟨some 7, none, .ld false 1 (.t 6)⟩,
 ⟨some 8, none, .bin .eql (.t 5) (.t 7)⟩,
 ⟨some 3, none, .mov (.t 8)⟩] (some [3]))
 (.ret))
def F_model_Check_3 : F := ⟨i_model_Check_3, [(3, none)], false⟩
def i_model_Check_4 : IR := .seq (.rg [⟨some 1, none, .box (.t 0)⟩,
 ⟨some 2, none, .mov (.c (.bool false))⟩] (some [1]))
 (.seq (.rg [⟨some 4, none, .fad 1 (.t 1)⟩,
 ⟨some 5, none, .ld false 1 (.t 4)⟩,
 ⟨some 6, none, .call n_spans_Size [(.t 5)]⟩,
 ⟨some 3, none, .mov (.t 6)⟩] (some [3]))
 (.seq (.rg [⟨some 7, none, .mov (.t 3)⟩,
 ⟨some 8, none, .bin .lss (.t 7) (.c (.int .i64 1))⟩,
 ⟨some 9, none, .mov (.t 8)⟩,
 ⟨some 10, (some (9, false)), .mov (.t 3)⟩,
 ⟨some 11, (some (9, false)), .bin .gtr (.t 10) (.c (.int .i64 64))⟩,
 ⟨some 12, none, .pick (.t 9) (.c (.bool true)) (.t 11)⟩,
 ⟨some 2, none, .mov (.t 12)⟩] (some [2]))
 (.ret)))
def F_model_Check_4 : F := ⟨i_model_Check_4, [(2, none)], false⟩
def b_spans_Size_0 : IR := .seq (.rg [⟨some 12, none, .bin .lss (.t 11) (.t 10)⟩] (some [3, 9, 10, 11, 12]))
 (.seq (.cond (.t 12) (.skip) (.ext 0))
 (.seq (.blk 1 (.seq (.rg [⟨some 13, none, .iad 2 (.t 9) (.t 11)⟩,
 ⟨some 14, none, .ld true 2 (.t 13)⟩,
 ⟨some 5, none, .new (.agg [.int .i64 0, .int .i64 0])⟩,
 ⟨none, none, .st 2 (.t 5) (.t 14)⟩] (some [3, 5, 9, 10, 11]))
 (.rg [⟨some 15, none, .mov (.t 3)⟩,
 ⟨some 16, none, .fad 1 (.t 5)⟩,
 ⟨some 17, none, .ld false 1 (.t 16)⟩,
 ⟨some 18, none, .fad 0 (.t 5)⟩,
 ⟨some 19, none, .ld false 1 (.t 18)⟩,
 ⟨some 20, none, .bin .sub (.t 17) (.t 19)⟩,
 ⟨some 21, none, .bin .add (.t 20) (.c (.int .i64 1))⟩,
 ⟨some 22, none, .bin .add (.t 15) (.t 21)⟩,
 ⟨some 3, none, .mov (.t 22)⟩] (some [3, 9, 10, 11]))))
 (.rg [⟨some 23, none, .bin .add (.t 11) (.c (.int .i64 1))⟩,
 ⟨some 11, none, .mov (.t 23)⟩] (some [3, 9, 10, 11]))))
def i_spans_Size_l0 : IR := .loop b_spans_Size_0
theorem r_spans_Size_0 {C : Cx} {Y : Yl} {fr : Fr} {h : List Ob} : evw C Y i_spans_Size_l0 fr h = nxt (evw C Y b_spans_Size_0 fr h) fun fr h => evw C Y i_spans_Size_l0 fr h := w_loop
def i_spans_Size : IR := .seq (.rg [⟨some 2, none, .mov (.c (.int .i64 0))⟩] (some [0]))
 (.seq (.seq (.rg [⟨some 6, none, .mov (.t 0)⟩,
 ⟨some 7, none, .call n_spans_Right [(.t 6)]⟩,
 ⟨some 8, none, .un .not (.t 7)⟩] (some [0, 8]))
 (.cond (.t 8) (.seq (.rg [⟨some 2, none, .mov (.c (.int .i64 0))⟩] (some [2]))
 (.ret)) (.skip)))
 (.seq (.rg [⟨some 3, none, .mov (.c (.int .i64 0))⟩] (some [0, 3]))
 (.seq (.seq (.rg [⟨some 9, none, .mov (.t 0)⟩,
 ⟨some 10, none, .len (.t 9)⟩,
 ⟨some 11, none, .mov (.c (.int .i64 0))⟩] (some [3, 9, 10, 11]))
 (.blk 0 (i_spans_Size_l0)))
 (.seq (.rg [⟨some 24, none, .mov (.t 3)⟩,
 ⟨some 2, none, .mov (.t 24)⟩] (some [2]))
 (.ret)))))
def F_spans_Size : F := ⟨i_spans_Size, [(2, none)], false⟩
def b_model_wrong_0 : IR := .seq (.rg [⟨some 12, none, .bin .lss (.t 11) (.t 10)⟩] (some [1, 3, 9, 10, 11, 12]))
 (.seq (.cond (.t 12) (.skip) (.ext 0))
 (.seq (.blk 1 (.seq (.rg [⟨some 13, none, .mov (.t 11)⟩,
 ⟨some 14, none, .iad 3 (.t 9) (.t 11)⟩,
 ⟨some 15, none, .ld true 3 (.t 14)⟩,
 ⟨some 4, none, .new (.int .i64 0)⟩,
 ⟨some 5, none, .new (.agg [.bool false, .nsl 2, .nsl 6])⟩,
 ⟨none, none, .st 1 (.t 4) (.t 13)⟩,
 ⟨none, none, .st 3 (.t 5) (.t 15)⟩] (some [1, 3, 4, 5, 9, 10, 11]))
 (.seq (.rg [⟨some 16, none, .fad 2 (.t 5)⟩,
 ⟨some 17, none, .ld false 1 (.t 16)⟩,
 ⟨some 18, none, .mkf (.func n_model_wrong_1) [] [(.t 3), (.t 4)]⟩,
 ⟨some 19, none, .call n_slices_ContainsFunc_sapi_Con_api_Con [(.t 17), (.t 18)]⟩] (some [1, 3, 9, 10, 11, 19]))
 (.cond (.t 19) (.seq (.rg [⟨some 2, none, .mov (.c (.bool true))⟩] (some [2]))
 (.ret)) (.skip)))))
 (.rg [⟨some 20, none, .bin .add (.t 11) (.c (.int .i64 1))⟩,
 ⟨some 11, none, .mov (.t 20)⟩] (some [1, 3, 9, 10, 11]))))
def i_model_wrong_l0 : IR := .loop b_model_wrong_0
theorem r_model_wrong_0 {C : Cx} {Y : Yl} {fr : Fr} {h : List Ob} : evw C Y i_model_wrong_l0 fr h = nxt (evw C Y b_model_wrong_0 fr h) fun fr h => evw C Y i_model_wrong_l0 fr h := w_loop
def i_model_wrong : IR := .seq (.rg [⟨some 1, none, .box (.t 0)⟩,
 ⟨some 2, none, .mov (.c (.bool false))⟩] (some [1]))
 (.seq (.rg [⟨some 6, none, .ld true 2 (.t 1)⟩,
 ⟨some 7, none, .call n_model_Ends [(.t 6)]⟩,
 ⟨some 3, none, .new (.nsl 1)⟩,
 ⟨none, none, .st 1 (.t 3) (.t 7)⟩] (some [1, 3]))
 (.seq (.seq (.rg [⟨some 8, none, .fad 0 (.t 1)⟩,
 ⟨some 9, none, .ld false 1 (.t 8)⟩,
 ⟨some 10, none, .len (.t 9)⟩,
 ⟨some 11, none, .mov (.c (.int .i64 0))⟩] (some [1, 3, 9, 10, 11]))
 (.blk 0 (i_model_wrong_l0)))
 (.seq (.rg [⟨some 21, none, .fad 1 (.t 1)⟩,
 ⟨some 22, none, .ld false 1 (.t 21)⟩,
 ⟨some 23, none, .mkf (.func n_model_wrong_2) [] [(.t 3)]⟩,
 ⟨some 24, none, .call n_slices_ContainsFunc_sapi_Con_api_Con [(.t 22), (.t 23)]⟩,
 ⟨some 2, none, .mov (.t 24)⟩] (some [2]))
 (.ret))))
def F_model_wrong : F := ⟨i_model_wrong, [(2, none)], false⟩
def b_model_Ends_0 : IR := .seq (.rg [⟨some 11, none, .bin .lss (.t 10) (.t 9)⟩] (some [3, 4, 8, 9, 10, 11]))
 (.seq (.cond (.t 11) (.skip) (.ext 0))
 (.seq (.blk 1 (.seq (.rg [⟨some 12, none, .iad 3 (.t 8) (.t 10)⟩,
 ⟨some 13, none, .ld true 3 (.t 12)⟩,
 ⟨some 6, none, .new (.agg [.bool false, .nsl 2, .nsl 6])⟩,
 ⟨none, none, .st 3 (.t 6) (.t 13)⟩] (some [3, 4, 6, 8, 9, 10]))
 (.seq (.rg [⟨some 14, none, .mov (.t 4)⟩,
 ⟨some 15, none, .fad 1 (.t 6)⟩,
 ⟨some 16, none, .ld false 1 (.t 15)⟩,
 ⟨some 17, none, .len (.t 16)⟩,
 ⟨some 18, none, .bin .add (.t 14) (.t 17)⟩,
 ⟨some 4, none, .mov (.t 18)⟩] (some [3, 4, 8, 9, 10]))
 (.rg [⟨some 19, none, .mov (.t 3)⟩,
 ⟨some 20, none, .mov (.t 4)⟩,
 ⟨some 21, none, .bsf (.int .i64 0) 1 [(0, (.t 20))]⟩,
 ⟨some 22, none, .app 1 8 (.t 19) (.t 21)⟩,
 ⟨some 3, none, .mov (.t 22)⟩] (some [3, 4, 8, 9, 10])))))
 (.rg [⟨some 23, none, .bin .add (.t 10) (.c (.int .i64 1))⟩,
 ⟨some 10, none, .mov (.t 23)⟩] (some [3, 4, 8, 9, 10]))))
def i_model_Ends_l0 : IR := .loop b_model_Ends_0
theorem r_model_Ends_0 {C : Cx} {Y : Yl} {fr : Fr} {h : List Ob} : evw C Y i_model_Ends_l0 fr h = nxt (evw C Y b_model_Ends_0 fr h) fun fr h => evw C Y i_model_Ends_l0 fr h := w_loop
def i_model_Ends : IR := .seq (.rg [⟨some 1, none, .box (.t 0)⟩,
 ⟨some 2, none, .mov (.c (.nsl 1))⟩] (some [1]))
 (.seq (.rg [⟨some 3, none, .mov (.c (.nsl 1))⟩] (some [1, 3]))
 (.seq (.rg [⟨some 4, none, .mov (.c (.int .i64 0))⟩] (some [1, 3, 4]))
 (.seq (.seq (.rg [⟨some 7, none, .fad 0 (.t 1)⟩,
 ⟨some 8, none, .ld false 1 (.t 7)⟩,
 ⟨some 9, none, .len (.t 8)⟩,
 ⟨some 10, none, .mov (.c (.int .i64 0))⟩] (some [3, 4, 8, 9, 10]))
 (.blk 0 (i_model_Ends_l0)))
 (.seq (.rg [⟨some 24, none, .mov (.t 3)⟩,
 ⟨some 2, none, .mov (.t 24)⟩] (some [2]))
 (.ret)))))
def F_model_Ends : F := ⟨i_model_Ends, [(2, none)], false⟩
def b_spans_Place_0 : IR := .seq (.rg [⟨some 14, none, .bin .lss (.t 13) (.t 12)⟩] (some [1, 5, 11, 12, 13, 14]))
 (.seq (.cond (.t 14) (.skip) (.ext 0))
 (.seq (.blk 1 (.seq (.rg [⟨some 15, none, .iad 2 (.t 11) (.t 13)⟩,
 ⟨some 16, none, .ld true 2 (.t 15)⟩,
 ⟨some 7, none, .new (.agg [.int .i64 0, .int .i64 0])⟩,
 ⟨none, none, .st 2 (.t 7) (.t 16)⟩] (some [1, 5, 7, 11, 12, 13]))
 (.seq (.blk 2 (.seq (.rg [⟨some 18, none, .mov (.t 1)⟩,
 ⟨some 19, none, .fad 0 (.t 7)⟩,
 ⟨some 20, none, .ld false 1 (.t 19)⟩,
 ⟨some 21, none, .bin .lss (.t 18) (.t 20)⟩,
 ⟨some 17, none, .mov (.t 21)⟩] (some [1, 5, 7, 11, 12, 13, 17]))
 (.cond (.t 17) (.ext 0) (.seq (.rg [⟨some 23, none, .mov (.t 1)⟩,
 ⟨some 24, none, .fad 1 (.t 7)⟩,
 ⟨some 25, none, .ld false 1 (.t 24)⟩,
 ⟨some 26, none, .bin .leq (.t 23) (.t 25)⟩,
 ⟨some 22, none, .mov (.t 26)⟩] (some [1, 5, 7, 11, 12, 13, 22]))
 (.cond (.t 22) (.seq (.rg [⟨some 27, none, .mov (.t 5)⟩,
 ⟨some 28, none, .mov (.t 1)⟩,
 ⟨some 29, none, .bin .add (.t 27) (.t 28)⟩,
 ⟨some 30, none, .fad 0 (.t 7)⟩,
 ⟨some 31, none, .ld false 1 (.t 30)⟩,
 ⟨some 32, none, .bin .sub (.t 29) (.t 31)⟩,
 ⟨some 4, none, .mov (.t 32)⟩] (some [4]))
 (.ret)) (.skip))))))
 (.rg [⟨some 33, none, .mov (.t 5)⟩,
 ⟨some 34, none, .fad 1 (.t 7)⟩,
 ⟨some 35, none, .ld false 1 (.t 34)⟩,
 ⟨some 36, none, .fad 0 (.t 7)⟩,
 ⟨some 37, none, .ld false 1 (.t 36)⟩,
 ⟨some 38, none, .bin .sub (.t 35) (.t 37)⟩,
 ⟨some 39, none, .bin .add (.t 38) (.c (.int .i64 1))⟩,
 ⟨some 40, none, .bin .add (.t 33) (.t 39)⟩,
 ⟨some 5, none, .mov (.t 40)⟩] (some [1, 5, 11, 12, 13])))))
 (.rg [⟨some 41, none, .bin .add (.t 13) (.c (.int .i64 1))⟩,
 ⟨some 13, none, .mov (.t 41)⟩] (some [1, 5, 11, 12, 13]))))
def i_spans_Place_l0 : IR := .loop b_spans_Place_0
def i_spans_Place : IR := .seq (.rg [⟨some 4, none, .mov (.c (.int .i64 0))⟩] (some [0, 1]))
 (.scg (.seq (.seq (.rg [⟨some 8, none, .mov (.t 0)⟩,
 ⟨some 9, none, .call n_spans_Right [(.t 8)]⟩,
 ⟨some 10, none, .un .not (.t 9)⟩] (some [0, 1, 10]))
 (.cond (.t 10) (.seq (.rg [⟨some 4, none, .mov (.c (.int .i64 (-1)))⟩] (some [4]))
 (.ret)) (.skip)))
 (.seq (.rg [⟨some 5, none, .mov (.c (.int .i64 0))⟩] (some [0, 1, 5]))
 (.seq (.lab 0)
 (.seq (.seq (.rg [⟨some 11, none, .mov (.t 0)⟩,
 ⟨some 12, none, .len (.t 11)⟩,
 ⟨some 13, none, .mov (.c (.int .i64 0))⟩] (some [1, 5, 11, 12, 13]))
 (.blk 0 (i_spans_Place_l0)))
 (.seq (.rg [⟨some 4, none, .mov (.c (.int .i64 (-1)))⟩] (some [4]))
 (.ret)))))))
def F_spans_Place : F := ⟨i_spans_Place, [(4, none)], false⟩
def b_slices_Index_sint_int_0 : IR := .seq (.rg [⟨some 9, none, .bin .lss (.t 8) (.t 7)⟩] (some [0, 1, 7, 8, 9]))
 (.seq (.cond (.t 9) (.skip) (.ext 0))
 (.seq (.blk 1 (.seq (.rg [⟨some 10, none, .mov (.t 8)⟩,
 ⟨some 5, none, .mov (.t 10)⟩] (some [0, 1, 5, 7, 8]))
 (.seq (.rg [⟨some 11, none, .mov (.t 1)⟩,
 ⟨some 12, none, .mov (.t 0)⟩,
 ⟨some 13, none, .mov (.t 5)⟩,
 ⟨some 14, none, .iad 1 (.t 12) (.t 13)⟩,
 ⟨some 15, none, .ld false 1 (.t 14)⟩,
 ⟨some 16, none, .bin .eql (.t 11) (.t 15)⟩] (some [0, 1, 5, 7, 8, 16]))
 (.cond (.t 16) (.seq (.rg [⟨some 17, none, .mov (.t 5)⟩,
 ⟨some 4, none, .mov (.t 17)⟩] (some [4]))
 (.ret)) (.skip)))))
 (.rg [⟨some 18, none, .bin .add (.t 8) (.c (.int .i64 1))⟩,
 ⟨some 8, none, .mov (.t 18)⟩] (some [0, 1, 7, 8]))))
def i_slices_Index_sint_int_l0 : IR := .loop b_slices_Index_sint_int_0
def i_slices_Index_sint_int : IR := .seq (.rg [⟨some 4, none, .mov (.c (.int .i64 0))⟩] (some [0, 1]))
 (.seq (.seq (.rg [⟨some 6, none, .mov (.t 0)⟩,
 ⟨some 7, none, .len (.t 6)⟩,
 ⟨some 8, none, .mov (.c (.int .i64 0))⟩] (some [0, 1, 7, 8]))
 (.blk 0 (i_slices_Index_sint_int_l0)))
 (.seq (.rg [⟨some 4, none, .mov (.c (.int .i64 (-1)))⟩] (some [4]))
 (.ret)))
def F_slices_Index_sint_int : F := ⟨i_slices_Index_sint_int, [(4, none)], false⟩
def i_ground_All : IR := .seq (.rg [⟨some 3, none, .box (.t 1)⟩,
 ⟨some 4, none, .mov (.c (.bool false))⟩] (some [0, 3]))
 (.seq (.rg [⟨some 5, none, .mov (.t 0)⟩,
 ⟨some 6, none, .ld false 1 (.t 3)⟩,
 ⟨some 7, none, .call n_ground_Right [(.t 5), (.t 6)]⟩,
 ⟨some 8, none, .mov (.t 7)⟩,
 ⟨some 9, (some (8, true)), .mov (.t 0)⟩,
 ⟨some 10, (some (8, true)), .mkf (.func n_ground_All_1) [] [(.t 3)]⟩,
 ⟨some 11, (some (8, true)), .call n_slices_ContainsFunc_sapi_Con_api_Con [(.t 9), (.t 10)]⟩,
 ⟨some 12, (some (8, true)), .un .not (.t 11)⟩,
 ⟨some 13, none, .pick (.t 8) (.t 12) (.c (.bool false))⟩,
 ⟨some 4, none, .mov (.t 13)⟩] (some [4]))
 (.ret))
def F_ground_All : F := ⟨i_ground_All, [(4, none)], false⟩
def b_ref11_Right_0 : IR := .seq (.seq (.rg [⟨some 7, none, .mov (.t 5)⟩,
 ⟨some 8, none, .mov (.t 1)⟩,
 ⟨some 9, none, .len (.t 8)⟩,
 ⟨some 10, none, .bin .lss (.t 7) (.t 9)⟩] (some [0, 1, 5, 10]))
 (.cond (.t 10) (.skip) (.ext 0)))
 (.seq (.blk 1 (.seq (.rg [⟨some 13, none, .mov (.t 1)⟩,
 ⟨some 14, none, .mov (.t 5)⟩,
 ⟨some 15, none, .iad 1 (.t 13) (.t 14)⟩,
 ⟨some 16, none, .ld false 1 (.t 15)⟩,
 ⟨some 17, none, .bin .lss (.t 16) (.c (.int .i64 (-1048576)))⟩,
 ⟨some 18, none, .mov (.t 17)⟩,
 ⟨some 19, (some (18, false)), .mov (.t 1)⟩,
 ⟨some 20, (some (18, false)), .mov (.t 5)⟩,
 ⟨some 21, (some (18, false)), .iad 1 (.t 19) (.t 20)⟩,
 ⟨some 22, (some (18, false)), .ld false 1 (.t 21)⟩,
 ⟨some 23, (some (18, false)), .bin .gtr (.t 22) (.c (.int .i64 1048576))⟩,
 ⟨some 24, none, .pick (.t 18) (.c (.bool true)) (.t 23)⟩] (some [0, 1, 5, 24]))
 (.cond (.t 24) (.seq (.rg [⟨some 4, none, .mov (.c (.bool false))⟩] (some [4]))
 (.ret)) (.skip))))
 (.rg [⟨some 11, none, .mov (.t 5)⟩,
 ⟨some 12, none, .bin .add (.t 11) (.c (.int .i64 1))⟩,
 ⟨some 5, none, .mov (.t 12)⟩] (some [0, 1, 5])))
def i_ref11_Right_l0 : IR := .loop b_ref11_Right_0
def b_ref11_Right_1 : IR := .seq (.seq (.rg [⟨some 25, none, .mov (.t 6)⟩,
 ⟨some 26, none, .mov (.t 0)⟩,
 ⟨some 27, none, .len (.t 26)⟩,
 ⟨some 28, none, .bin .lss (.t 25) (.t 27)⟩] (some [0, 1, 6, 28]))
 (.cond (.t 28) (.skip) (.ext 2)))
 (.seq (.blk 3 (.seq (.rg [⟨some 31, none, .mov (.t 0)⟩,
 ⟨some 32, none, .mov (.t 6)⟩,
 ⟨some 33, none, .iad 6 (.t 31) (.t 32)⟩,
 ⟨some 34, none, .ld true 6 (.t 33)⟩,
 ⟨some 35, none, .mov (.t 1)⟩,
 ⟨some 36, none, .len (.t 35)⟩,
 ⟨some 37, none, .call n_ref08_Right [(.t 34), (.t 36)]⟩,
 ⟨some 38, none, .un .not (.t 37)⟩] (some [0, 1, 6, 38]))
 (.cond (.t 38) (.seq (.rg [⟨some 4, none, .mov (.c (.bool false))⟩] (some [4]))
 (.ret)) (.skip))))
 (.rg [⟨some 29, none, .mov (.t 6)⟩,
 ⟨some 30, none, .bin .add (.t 29) (.c (.int .i64 1))⟩,
 ⟨some 6, none, .mov (.t 30)⟩] (some [0, 1, 6])))
def i_ref11_Right_l1 : IR := .loop b_ref11_Right_1
def i_ref11_Right : IR := .seq (.rg [⟨some 4, none, .mov (.c (.bool false))⟩] (some [0, 1]))
 (.seq (.seq (.rg [⟨some 5, none, .mov (.c (.int .i64 0))⟩] (some [0, 1, 5]))
 (.blk 0 (i_ref11_Right_l0)))
 (.seq (.seq (.rg [⟨some 6, none, .mov (.c (.int .i64 0))⟩] (some [0, 1, 6]))
 (.blk 2 (i_ref11_Right_l1)))
 (.seq (.rg [⟨some 4, none, .mov (.c (.bool true))⟩] (some [4]))
 (.ret))))
def F_ref11_Right : F := ⟨i_ref11_Right, [(4, none)], false⟩
def b_ref11_Holds_0 : IR := .seq (.seq (.rg [⟨some 14, none, .mov (.t 6)⟩,
 ⟨some 15, none, .fad 1 (.t 2)⟩,
 ⟨some 16, none, .ld false 1 (.t 15)⟩,
 ⟨some 17, none, .len (.t 16)⟩,
 ⟨some 18, none, .bin .lss (.t 14) (.t 17)⟩] (some [1, 2, 5, 6, 18]))
 (.cond (.t 18) (.skip) (.ext 0)))
 (.seq (.blk 1 (.rg [⟨some 21, none, .mov (.t 5)⟩,
 ⟨some 22, none, .mov (.t 1)⟩,
 ⟨some 23, none, .fad 1 (.t 2)⟩,
 ⟨some 24, none, .ld false 1 (.t 23)⟩,
 ⟨some 25, none, .mov (.t 6)⟩,
 ⟨some 26, none, .iad 1 (.t 24) (.t 25)⟩,
 ⟨some 27, none, .ld false 1 (.t 26)⟩,
 ⟨some 28, none, .iad 1 (.t 22) (.t 27)⟩,
 ⟨some 29, none, .ld false 1 (.t 28)⟩,
 ⟨some 30, none, .bsf (.int .i64 0) 1 [(0, (.t 29))]⟩,
 ⟨some 31, none, .app 1 8 (.t 21) (.t 30)⟩,
 ⟨some 5, none, .mov (.t 31)⟩] (some [1, 2, 5, 6])))
 (.rg [⟨some 19, none, .mov (.t 6)⟩,
 ⟨some 20, none, .bin .add (.t 19) (.c (.int .i64 1))⟩,
 ⟨some 6, none, .mov (.t 20)⟩] (some [1, 2, 5, 6])))
def i_ref11_Holds_l0 : IR := .loop b_ref11_Holds_0
def b_ref11_Holds_1 : IR := .seq (.seq (.rg [⟨some 79, none, .mov (.t 7)⟩,
 ⟨some 80, none, .fad 5 (.t 2)⟩,
 ⟨some 81, none, .ld false 1 (.t 80)⟩,
 ⟨some 82, none, .len (.t 81)⟩,
 ⟨some 83, none, .bin .lss (.t 79) (.t 82)⟩] (some [2, 5, 7, 83]))
 (.cond (.t 83) (.skip) (.ext 3)))
 (.seq (.blk 4 (.seq (.rg [⟨some 86, none, .mov (.t 5)⟩,
 ⟨some 87, none, .iad 1 (.t 86) (.c (.int .i64 0))⟩,
 ⟨some 88, none, .ld false 1 (.t 87)⟩,
 ⟨some 89, none, .mov (.t 7)⟩,
 ⟨some 90, none, .bin .eql (.t 88) (.t 89)⟩] (some [2, 5, 7, 90]))
 (.cond (.t 90) (.seq (.dq [(⟨some 91, none, .fad 5 (.t 2)⟩, []),
 (⟨some 92, none, .ld false 1 (.t 91)⟩, [0]),
 (⟨some 93, none, .mov (.t 7)⟩, []),
 (⟨some 94, none, .iad 1 (.t 92) (.t 93)⟩, [0, 1, 2]),
 (⟨some 95, none, .ld false 1 (.t 94)⟩, [0, 1, 2, 3]),
 (⟨some 96, none, .mov (.t 5)⟩, []),
 (⟨some 97, none, .iad 1 (.t 96) (.c (.int .i64 1))⟩, [5]),
 (⟨some 98, none, .ld false 1 (.t 97)⟩, [5, 6]),
 (⟨some 99, none, .bin .eql (.t 95) (.t 98)⟩, [0, 1, 2, 3, 4, 5, 6, 7]),
 (⟨some 4, none, .mov (.t 99)⟩, [0, 1, 2, 3, 4, 5, 6, 7, 8])] (some [4]))
 (.ret)) (.skip))))
 (.rg [⟨some 84, none, .mov (.t 7)⟩,
 ⟨some 85, none, .bin .add (.t 84) (.c (.int .i64 1))⟩,
 ⟨some 7, none, .mov (.t 85)⟩] (some [2, 5, 7])))
end Go.RR.M
