/- The code of the functions, by name, for the second reading; that it is theirs. -/
import Derived.Test.YtkbdlifjhcmgbaaProg
import Derived.KernelRfl
import Derived.Test.YtkbdlifjhcmgbaaR4
import Derived.Test.YtkbdlifjhcmgbaaRN
set_option linter.unusedVariables false
set_option linter.unusedSimpArgs false
set_option linter.unusedVariables false
namespace Go.RR.M
open Go Go.RR
set_option maxRecDepth 100000
def n_main_main : Nat := 0
def n_gosem_cut : Nat := 1
def n_gosem_cut_init : Nat := 2
def n_law05_TrailDoes : Nat := 3
def n_law05_TrailBack : Nat := 4
def n_law05_TrailTypes : Nat := 5
def n_law03_SpansTells : Nat := 6
def n_law03_SpansSets : Nat := 7
def n_law03_SpansOne : Nat := 8
def n_law05_awake : Nat := 9
def n_trail_New_int : Nat := 10
def n_ref05_New : Nat := 11
def n_law05_do : Nat := 12
def n_ref05_Trail_Set : Nat := 13
def n_ref05_Trail_Save : Nat := 14
def n_ref05_Trail_Undo : Nat := 15
def n_trail_Trail_int_Marks : Nat := 16
def n_trail_Trail_int_Len : Nat := 17
def n_ref02_Same : Nat := 18
def n_trail_Trail_int_Changed : Nat := 19
def n_ref05_Trail_Changed : Nat := 20
def n_trail_Trail_int_Get : Nat := 21
def n_trail_Trail_int_Stamp : Nat := 22
def n_trail_Trail_int_Save : Nat := 23
def n_trail_Trail_int_Undo : Nat := 24
def n_trail_New_string : Nat := 25
def n_trail_Trail_string_Set : Nat := 26
def n_trail_Trail_string_Save : Nat := 27
def n_trail_Trail_string_Undo : Nat := 28
def n_trail_Trail_string_Changed : Nat := 29
def n_trail_Trail_string_Get : Nat := 30
def n_trail_Trail_string_Stamp : Nat := 31
def n_law03_awake : Nat := 32
def n_ref03_Right : Nat := 33
def n_spans_At : Nat := 34
def n_spans_Right : Nat := 35
def n_spans_Size : Nat := 36
def n_ref03_Size : Nat := 37
def n_spans_Has : Nat := 38
def n_ref03_In : Nat := 39
def n_spans_Place : Nat := 40
def n_ref03_Place : Nat := 41
def n_spans_Of : Nat := 42
def n_ref03_Of : Nat := 43
def n_ref03_Same : Nat := 44
def n_spans_Union : Nat := 45
def n_spans_Meet : Nat := 46
def n_spans_Less : Nat := 47
def n_law03_few : Nat := 48
def n_ref03_Values : Nat := 49
def n_trail_Trail_int_Set : Nat := 50
def n_ref05_Trail_Put : Nat := 51
def n_trail_Trail_int_last : Nat := 52
def n_slices_Sort_sint_int : Nat := 53
def n_trail_Trail_int_there : Nat := 54
def n_trail_Trail_int_put : Nat := 55
def n_trail_Trail_int_carry : Nat := 56
def n_trail_Trail_string_there : Nat := 57
def n_trail_Trail_string_last : Nat := 58
def n_trail_Trail_string_put : Nat := 59
def n_trail_Trail_string_Marks : Nat := 60
def n_trail_Trail_string_carry : Nat := 61
def n_slices_Sorted_int : Nat := 62
def n_slices_Values_sint_int : Nat := 63
def n_spans_put : Nat := 64
def n_spans_parts : Nat := 65
def n_spans_Union_1 : Nat := 66
def n_spans_Meet_1 : Nat := 67
def n_spans_Less_1 : Nat := 68
def n_slices_pdqsortOrdered_int : Nat := 69
def n_math_bits_Len : Nat := 70
def n_maps_DeleteFunc_map_int_int_int_int : Nat := 71
def n_trail_Trail_int_carry_1 : Nat := 72
def n_maps_DeleteFunc_map_int_string_int_string : Nat := 73
def n_trail_Trail_string_carry_1 : Nat := 74
def n_slices_Collect_int : Nat := 75
def n_slices_Values_sint_int_1 : Nat := 76
def n_slices_Concat_sapi_Span_api_Span : Nat := 77
def n_slices_Compact_sint_int : Nat := 78
def n_slices_insertionSortOrdered_int : Nat := 79
def n_slices_heapSortOrdered_int : Nat := 80
def n_slices_breakPatternsOrdered_int : Nat := 81
def n_slices_choosePivotOrdered_int : Nat := 82
def n_slices_reverseRangeOrdered_int : Nat := 83
def n_slices_partialInsertionSortOrdered_int : Nat := 84
def n_cmp_Less_int : Nat := 85
def n_slices_partitionEqualOrdered_int : Nat := 86
def n_slices_partitionOrdered_int : Nat := 87
def n_math_bits_Len32 : Nat := 88
def n_math_bits_Len64 : Nat := 89
def n_slices_AppendSeq_sint_int : Nat := 90
def n_slices_Grow_sapi_Span_api_Span : Nat := 91
def n_slices_siftDownOrdered_int : Nat := 92
def n_slices_nextPowerOfTwo : Nat := 93
def n_slices_xorshift_Next : Nat := 94
def n_slices_medianAdjacentOrdered_int : Nat := 95
def n_slices_medianOrdered_int : Nat := 96
def n_cmp_isNaN_int : Nat := 97
def n_slices_order2Ordered_int : Nat := 98
def n_runtime_boundsError_Error : Nat := 99
def n_runtime_boundsError_RuntimeError : Nat := 100
def n_runtime_errorString_Error : Nat := 101
def n_runtime_errorString_RuntimeError : Nat := 102
def n_runtime_plainError_Error : Nat := 103
def n_runtime_plainError_RuntimeError : Nat := 104
def n_runtime_errorAddressString_Error : Nat := 105
def n_runtime_errorAddressString_RuntimeError : Nat := 106
def n_runtime_TypeAssertionError_Error : Nat := 107
def n_runtime_TypeAssertionError_RuntimeError : Nat := 108
def n_runtime_PanicNilError_Error : Nat := 109
def n_runtime_PanicNilError_RuntimeError : Nat := 110
def n_abi_Type_Align : Nat := 111
def n_maps_unhashableTypeError_Error : Nat := 112
def n_maps_unhashableTypeError_RuntimeError : Nat := 113
def n_api_Errno_Error : Nat := 114
def n_trail_Trail_string_Len : Nat := 115
def n_abi_Kind_String : Nat := 116
/-- stratagem/stratagemlaw05.TrailDoes -/
def b_law05_TrailDoes_0 : IR := .seq (.rg [⟨(some 130), none, .bin .lss (.t 129) (.t 128)⟩] (some [0, 5, 7, 57, 58, 59, 128, 129, 130]))
   (.seq (.cond (.t 130) (.skip) (.ext 3))
   (.seq (.blk 4 (.seq (.rg [⟨(some 131), none, .mov (.t 129)⟩,
    ⟨(some 15), none, .mov (.t 131)⟩] (some [0, 5, 7, 15, 57, 58, 59, 128, 129]))
   (.seq (.rg [⟨(some 133), none, .mov (.t 5)⟩,
    ⟨(some 134), none, .mov (.t 15)⟩,
    ⟨(some 135), none, .call n_trail_Trail_int_Get [(.t 133), (.t 134)]⟩,
    ⟨(some 132), none, .mov (.t 135)⟩,
    ⟨(some 136), none, .ext (.t 132) 0⟩,
    ⟨(some 137), none, .ext (.t 132) 1⟩,
    ⟨(some 16), none, .mov (.t 136)⟩,
    ⟨(some 17), none, .mov (.t 137)⟩] (some [0, 5, 7, 15, 16, 17, 57, 58, 59, 128, 129]))
   (.seq (.dc [(⟨(some 138), none, .mov (.t 17)⟩, [], false),
    (⟨(some 139), none, .un .not (.t 138)⟩, [0], false),
    (⟨(some 140), none, .mov (.t 139)⟩, [0, 1], false),
    (⟨(some 141), (some (140, false)), .mov (.t 16)⟩, [0, 1, 2], false),
    (⟨(some 142), (some (140, false)), .mov (.t 7)⟩, [0, 1, 2], false),
    (⟨(some 143), (some (140, false)), .nck (.t 142)⟩, [0, 1, 2, 4], false),
    (⟨(some 144), (some (140, false)), .fad 0 (.t 143)⟩, [0, 1, 2, 4, 5], false),
    (⟨(some 145), (some (140, false)), .ld false 1 (.t 144)⟩, [0, 1, 2, 4, 5, 6], false),
    (⟨(some 146), (some (140, false)), .mov (.t 15)⟩, [0, 1, 2], false),
    (⟨(some 147), (some (140, false)), .iad 1 (.t 145) (.t 146)⟩, [0, 1, 2, 4, 5, 6, 7, 8], false),
    (⟨(some 148), (some (140, false)), .ld false 1 (.t 147)⟩, [0, 1, 2, 4, 5, 6, 7, 8, 9], false),
    (⟨(some 149), (some (140, false)), .bin .neq (.t 141) (.t 148)⟩, [0, 1, 2, 3, 4, 5, 6, 7, 8, 9, 10], false),
    (⟨(some 150), none, .pick (.t 140) (.c (.bool true)) (.t 149)⟩, [0, 1, 2, 3, 4, 5, 6, 7, 8, 9, 10, 11], false),
    (⟨(some 151), none, .mov (.t 150)⟩, [0, 1, 2, 3, 4, 5, 6, 7, 8, 9, 10, 11, 12], false),
    (⟨(some 152), (some (151, false)), .mov (.t 5)⟩, [0, 1, 2, 3, 4, 5, 6, 7, 8, 9, 10, 11, 12, 13], false),
    (⟨(some 153), (some (151, false)), .mov (.t 15)⟩, [0, 1, 2, 3, 4, 5, 6, 7, 8, 9, 10, 11, 12, 13], false),
    (⟨(some 154), (some (151, false)), .call n_trail_Trail_int_Stamp [(.t 152), (.t 153)]⟩, [0, 1, 2, 3, 4, 5, 6, 7, 8, 9, 10, 11, 12, 13, 14, 15], true),
    (⟨(some 155), (some (151, false)), .mov (.t 7)⟩, [0, 1, 2, 3, 4, 5, 6, 7, 8, 9, 10, 11, 12, 13], false),
    (⟨(some 156), (some (151, false)), .nck (.t 155)⟩, [0, 1, 2, 3, 4, 5, 6, 7, 8, 9, 10, 11, 12, 13, 17], false),
    (⟨(some 157), (some (151, false)), .fad 1 (.t 156)⟩, [0, 1, 2, 3, 4, 5, 6, 7, 8, 9, 10, 11, 12, 13, 17, 18], false),
    (⟨(some 158), (some (151, false)), .ld false 1 (.t 157)⟩, [0, 1, 2, 3, 4, 5, 6, 7, 8, 9, 10, 11, 12, 13, 17, 18, 19], false),
    (⟨(some 159), (some (151, false)), .mov (.t 15)⟩, [0, 1, 2, 3, 4, 5, 6, 7, 8, 9, 10, 11, 12, 13], false),
    (⟨(some 160), (some (151, false)), .iad 1 (.t 158) (.t 159)⟩, [0, 1, 2, 3, 4, 5, 6, 7, 8, 9, 10, 11, 12, 13, 17, 18, 19, 20, 21], false),
    (⟨(some 161), (some (151, false)), .ld false 1 (.t 160)⟩, [0, 1, 2, 3, 4, 5, 6, 7, 8, 9, 10, 11, 12, 13, 17, 18, 19, 20, 21, 22], false),
    (⟨(some 162), (some (151, false)), .bin .neq (.t 154) (.t 161)⟩, [0, 1, 2, 3, 4, 5, 6, 7, 8, 9, 10, 11, 12, 13, 14, 15, 16, 17, 18, 19, 20, 21, 22, 23], false),
    (⟨(some 163), none, .pick (.t 151) (.c (.bool true)) (.t 162)⟩, [0, 1, 2, 3, 4, 5, 6, 7, 8, 9, 10, 11, 12, 13, 14, 15, 16, 17, 18, 19, 20, 21, 22, 23, 24], false)] (some [0, 5, 7, 57, 58, 59, 128, 129, 163]))
   (.cond (.t 163) (.seq (.rg [⟨(some 4), none, .mov (.c (.bool false))⟩] (some [4]))
   (.ret)) (.skip))))))
   (.rg [⟨(some 164), none, .bin .add (.t 129) (.c (.int .i64 1))⟩,
    ⟨(some 129), none, .mov (.t 164)⟩] (some [0, 5, 7, 57, 58, 59, 128, 129]))))
def i_law05_TrailDoes_l0 : IR := .loop b_law05_TrailDoes_0
theorem r_law05_TrailDoes_0 {C : Cx} {Y : Yl} {fr : Fr} {h : List Ob} : evw C Y i_law05_TrailDoes_l0 fr h = nxt (evw C Y b_law05_TrailDoes_0 fr h) fun fr h => evw C Y i_law05_TrailDoes_l0 fr h := w_loop
def b_law05_TrailDoes_1 : IR := .seq (.rg [⟨(some 60), none, .bin .lss (.t 59) (.t 58)⟩] (some [0, 5, 7, 57, 58, 59, 60]))
   (.seq (.cond (.t 60) (.skip) (.ext 0))
   (.seq (.blk 1 (.seq (.rg [⟨(some 61), none, .iad 3 (.t 57) (.t 59)⟩,
    ⟨(some 62), none, .ld true 3 (.t 61)⟩,
    ⟨(some 10), none, .new (.agg [.int .i64 0, .int .i64 0, .int .i64 0])⟩,
    ⟨none, none, .st 3 (.t 10) (.t 62)⟩] (some [0, 5, 7, 10, 57, 58, 59]))
   (.seq (.rg [⟨(some 64), none, .mov (.t 5)⟩,
    ⟨(some 65), none, .ld true 3 (.t 10)⟩,
    ⟨(some 66), none, .call n_law05_do [(.t 64), (.t 65)]⟩,
    ⟨(some 63), none, .mov (.t 66)⟩,
    ⟨(some 67), none, .ext (.t 63) 0⟩,
    ⟨(some 68), none, .ext (.t 63) 1⟩,
    ⟨(some 11), none, .mov (.t 67)⟩,
    ⟨(some 12), none, .mov (.t 68)⟩] (some [0, 5, 7, 10, 11, 12, 57, 58, 59]))
   (.seq (.rg [⟨(some 13), none, .mov (.c (.int .i64 0))⟩,
    ⟨(some 14), none, .mov (.c (.int .i64 0))⟩] (some [0, 5, 7, 10, 11, 12, 13, 14, 57, 58, 59]))
   (.seq (.seq (.rg [⟨(some 69), none, .fad 0 (.t 10)⟩,
    ⟨(some 70), none, .ld false 1 (.t 69)⟩] (some [0, 5, 7, 10, 11, 12, 13, 14, 57, 58, 59, 70]))
   (.blk 2 (.seq (.rg [⟨(some 72), none, .bin .eql (.t 70) (.c (.int .i64 0))⟩,
    ⟨(some 71), none, .mov (.t 72)⟩] (some [0, 5, 7, 10, 11, 12, 13, 14, 57, 58, 59, 70, 71]))
   (.cond (.t 71) (.rg [⟨(some 73), none, .mov (.t 7)⟩,
    ⟨(some 74), none, .fad 1 (.t 10)⟩,
    ⟨(some 75), none, .ld false 1 (.t 74)⟩,
    ⟨(some 76), none, .fad 2 (.t 10)⟩,
    ⟨(some 77), none, .ld false 1 (.t 76)⟩,
    ⟨(some 78), none, .call n_ref05_Trail_Set [(.t 73), (.t 75), (.t 77)]⟩,
    ⟨(some 13), none, .mov (.t 78)⟩] (some [0, 5, 7, 11, 12, 13, 14, 57, 58, 59])) (.seq (.rg [⟨(some 80), none, .bin .eql (.t 70) (.c (.int .i64 1))⟩,
    ⟨(some 79), none, .mov (.t 80)⟩] (some [0, 5, 7, 11, 12, 13, 14, 57, 58, 59, 70, 79]))
   (.cond (.t 79) (.rg [⟨(some 81), none, .mov (.t 7)⟩,
    ⟨(some 82), none, .call n_ref05_Trail_Save [(.t 81)]⟩,
    ⟨(some 14), none, .mov (.t 82)⟩] (some [0, 5, 7, 11, 12, 13, 14, 57, 58, 59])) (.seq (.rg [⟨(some 84), none, .bin .eql (.t 70) (.c (.int .i64 2))⟩,
    ⟨(some 83), none, .mov (.t 84)⟩] (some [0, 5, 7, 11, 12, 13, 14, 57, 58, 59, 83]))
   (.cond (.t 83) (.rg [⟨(some 85), none, .mov (.t 7)⟩,
    ⟨(some 86), none, .call n_ref05_Trail_Undo [(.t 85)]⟩,
    ⟨(some 13), none, .mov (.t 86)⟩] (some [0, 5, 7, 11, 12, 13, 14, 57, 58, 59])) (.skip)))))))))
   (.seq (.seq (.dc [(⟨(some 87), none, .mov (.t 11)⟩, [], false),
    (⟨(some 88), none, .mov (.t 13)⟩, [], false),
    (⟨(some 89), none, .bin .neq (.t 87) (.t 88)⟩, [0, 1], false),
    (⟨(some 90), none, .mov (.t 89)⟩, [0, 1, 2], false),
    (⟨(some 91), (some (90, false)), .mov (.t 12)⟩, [0, 1, 2, 3], false),
    (⟨(some 92), (some (90, false)), .mov (.t 14)⟩, [0, 1, 2, 3], false),
    (⟨(some 93), (some (90, false)), .bin .neq (.t 91) (.t 92)⟩, [0, 1, 2, 3, 4, 5], false),
    (⟨(some 94), none, .pick (.t 90) (.c (.bool true)) (.t 93)⟩, [0, 1, 2, 3, 4, 5, 6], false),
    (⟨(some 95), none, .mov (.t 94)⟩, [0, 1, 2, 3, 4, 5, 6, 7], false),
    (⟨(some 96), (some (95, false)), .mov (.t 5)⟩, [0, 1, 2, 3, 4, 5, 6, 7, 8], false),
    (⟨(some 97), (some (95, false)), .call n_trail_Trail_int_Marks [(.t 96)]⟩, [0, 1, 2, 3, 4, 5, 6, 7, 8, 9], true),
    (⟨(some 98), (some (95, false)), .mov (.t 7)⟩, [0, 1, 2, 3, 4, 5, 6, 7, 8], false),
    (⟨(some 99), (some (95, false)), .nck (.t 98)⟩, [0, 1, 2, 3, 4, 5, 6, 7, 8, 11], false),
    (⟨(some 100), (some (95, false)), .fad 2 (.t 99)⟩, [0, 1, 2, 3, 4, 5, 6, 7, 8, 11, 12], false),
    (⟨(some 101), (some (95, false)), .ld false 1 (.t 100)⟩, [0, 1, 2, 3, 4, 5, 6, 7, 8, 11, 12, 13], false),
    (⟨(some 102), (some (95, false)), .len (.t 101)⟩, [0, 1, 2, 3, 4, 5, 6, 7, 8, 11, 12, 13, 14], false),
    (⟨(some 103), (some (95, false)), .bin .sub (.t 102) (.c (.int .i64 1))⟩, [0, 1, 2, 3, 4, 5, 6, 7, 8, 11, 12, 13, 14, 15], false),
    (⟨(some 104), (some (95, false)), .bin .neq (.t 97) (.t 103)⟩, [0, 1, 2, 3, 4, 5, 6, 7, 8, 9, 10, 11, 12, 13, 14, 15, 16], false),
    (⟨(some 105), none, .pick (.t 95) (.c (.bool true)) (.t 104)⟩, [0, 1, 2, 3, 4, 5, 6, 7, 8, 9, 10, 11, 12, 13, 14, 15, 16, 17], false),
    (⟨(some 106), none, .mov (.t 105)⟩, [0, 1, 2, 3, 4, 5, 6, 7, 8, 9, 10, 11, 12, 13, 14, 15, 16, 17, 18], false),
    (⟨(some 107), (some (106, false)), .mov (.t 5)⟩, [0, 1, 2, 3, 4, 5, 6, 7, 8, 9, 10, 11, 12, 13, 14, 15, 16, 17, 18, 19], false),
    (⟨(some 108), (some (106, false)), .call n_trail_Trail_int_Len [(.t 107)]⟩, [0, 1, 2, 3, 4, 5, 6, 7, 8, 9, 10, 11, 12, 13, 14, 15, 16, 17, 18, 19, 20], true),
    (⟨(some 109), (some (106, false)), .mov (.t 7)⟩, [0, 1, 2, 3, 4, 5, 6, 7, 8, 9, 10, 11, 12, 13, 14, 15, 16, 17, 18, 19], false),
    (⟨(some 110), (some (106, false)), .nck (.t 109)⟩, [0, 1, 2, 3, 4, 5, 6, 7, 8, 9, 10, 11, 12, 13, 14, 15, 16, 17, 18, 19, 22], false),
    (⟨(some 111), (some (106, false)), .fad 0 (.t 110)⟩, [0, 1, 2, 3, 4, 5, 6, 7, 8, 9, 10, 11, 12, 13, 14, 15, 16, 17, 18, 19, 22, 23], false),
    (⟨(some 112), (some (106, false)), .ld false 1 (.t 111)⟩, [0, 1, 2, 3, 4, 5, 6, 7, 8, 9, 10, 11, 12, 13, 14, 15, 16, 17, 18, 19, 22, 23, 24], false),
    (⟨(some 113), (some (106, false)), .len (.t 112)⟩, [0, 1, 2, 3, 4, 5, 6, 7, 8, 9, 10, 11, 12, 13, 14, 15, 16, 17, 18, 19, 22, 23, 24, 25], false),
    (⟨(some 114), (some (106, false)), .bin .neq (.t 108) (.t 113)⟩, [0, 1, 2, 3, 4, 5, 6, 7, 8, 9, 10, 11, 12, 13, 14, 15, 16, 17, 18, 19, 20, 21, 22, 23, 24, 25, 26], false),
    (⟨(some 115), none, .pick (.t 106) (.c (.bool true)) (.t 114)⟩, [0, 1, 2, 3, 4, 5, 6, 7, 8, 9, 10, 11, 12, 13, 14, 15, 16, 17, 18, 19, 20, 21, 22, 23, 24, 25, 26, 27], false),
    (⟨(some 116), none, .mov (.t 115)⟩, [0, 1, 2, 3, 4, 5, 6, 7, 8, 9, 10, 11, 12, 13, 14, 15, 16, 17, 18, 19, 20, 21, 22, 23, 24, 25, 26, 27, 28], false),
    (⟨(some 117), (some (116, false)), .mov (.t 5)⟩, [0, 1, 2, 3, 4, 5, 6, 7, 8, 9, 10, 11, 12, 13, 14, 15, 16, 17, 18, 19, 20, 21, 22, 23, 24, 25, 26, 27, 28, 29], false),
    (⟨(some 118), (some (116, false)), .call n_trail_Trail_int_Changed [(.t 117)]⟩, [0, 1, 2, 3, 4, 5, 6, 7, 8, 9, 10, 11, 12, 13, 14, 15, 16, 17, 18, 19, 20, 21, 22, 23, 24, 25, 26, 27, 28, 29, 30], true),
    (⟨(some 119), (some (116, false)), .mov (.t 7)⟩, [0, 1, 2, 3, 4, 5, 6, 7, 8, 9, 10, 11, 12, 13, 14, 15, 16, 17, 18, 19, 20, 21, 22, 23, 24, 25, 26, 27, 28, 29], false),
    (⟨(some 120), (some (116, false)), .call n_ref05_Trail_Changed [(.t 119)]⟩, [0, 1, 2, 3, 4, 5, 6, 7, 8, 9, 10, 11, 12, 13, 14, 15, 16, 17, 18, 19, 20, 21, 22, 23, 24, 25, 26, 27, 28, 29, 30, 31, 32], true),
    (⟨(some 121), (some (116, false)), .call n_ref02_Same [(.t 118), (.t 120)]⟩, [0, 1, 2, 3, 4, 5, 6, 7, 8, 9, 10, 11, 12, 13, 14, 15, 16, 17, 18, 19, 20, 21, 22, 23, 24, 25, 26, 27, 28, 29, 30, 31, 32, 33], false),
    (⟨(some 122), (some (116, false)), .un .not (.t 121)⟩, [0, 1, 2, 3, 4, 5, 6, 7, 8, 9, 10, 11, 12, 13, 14, 15, 16, 17, 18, 19, 20, 21, 22, 23, 24, 25, 26, 27, 28, 29, 30, 31, 32, 33, 34], false),
    (⟨(some 123), none, .pick (.t 116) (.c (.bool true)) (.t 122)⟩, [0, 1, 2, 3, 4, 5, 6, 7, 8, 9, 10, 11, 12, 13, 14, 15, 16, 17, 18, 19, 20, 21, 22, 23, 24, 25, 26, 27, 28, 29, 30, 31, 32, 33, 34, 35], false)] (some [0, 5, 7, 57, 58, 59, 123]))
   (.cond (.t 123) (.seq (.rg [⟨(some 4), none, .mov (.c (.bool false))⟩] (some [4]))
   (.ret)) (.skip)))
   (.seq (.rg [⟨(some 124), none, .mov (.t 7)⟩,
    ⟨(some 125), none, .nck (.t 124)⟩,
    ⟨(some 126), none, .fad 0 (.t 125)⟩,
    ⟨(some 127), none, .ld false 1 (.t 126)⟩,
    ⟨(some 128), none, .len (.t 127)⟩,
    ⟨(some 129), none, .mov (.c (.int .i64 0))⟩] (some [0, 5, 7, 57, 58, 59, 128, 129]))
   (.blk 3 (i_law05_TrailDoes_l0)))))))))
   (.rg [⟨(some 165), none, .bin .add (.t 59) (.c (.int .i64 1))⟩,
    ⟨(some 59), none, .mov (.t 165)⟩] (some [0, 5, 7, 57, 58, 59]))))
def i_law05_TrailDoes_l1 : IR := .loop b_law05_TrailDoes_1
theorem r_law05_TrailDoes_1 {C : Cx} {Y : Yl} {fr : Fr} {h : List Ob} : evw C Y i_law05_TrailDoes_l1 fr h = nxt (evw C Y b_law05_TrailDoes_1 fr h) fun fr h => evw C Y i_law05_TrailDoes_l1 fr h := w_loop
def i_law05_TrailDoes : IR := .seq (.rg [⟨(some 4), none, .mov (.c (.bool false))⟩] (some [0, 1]))
   (.seq (.seq (.rg [⟨(some 22), none, .call n_law05_awake []⟩,
    ⟨(some 23), none, .un .not (.t 22)⟩] (some [0, 1, 23]))
   (.cond (.t 23) (.seq (.rg [⟨(some 4), none, .mov (.c (.bool false))⟩] (some [4]))
   (.ret)) (.skip)))
   (.seq (.seq (.rg [⟨(some 24), none, .mov (.t 0)⟩,
    ⟨(some 25), none, .bin .gtr (.t 24) (.c (.int .i64 40))⟩,
    ⟨(some 26), none, .mov (.t 25)⟩,
    ⟨(some 27), (some (26, true)), .mov (.t 0)⟩,
    ⟨(some 28), (some (26, true)), .bin .leq (.t 27) (.c (.int .i64 1000))⟩,
    ⟨(some 29), none, .pick (.t 26) (.t 28) (.c (.bool false))⟩,
    ⟨(some 30), none, .mov (.t 29)⟩,
    ⟨(some 31), (some (30, false)), .mov (.t 1)⟩,
    ⟨(some 32), (some (30, false)), .len (.t 31)⟩,
    ⟨(some 33), (some (30, false)), .bin .gtr (.t 32) (.c (.int .i64 150))⟩,
    ⟨(some 34), none, .pick (.t 30) (.c (.bool true)) (.t 33)⟩] (some [0, 1, 34]))
   (.cond (.t 34) (.seq (.rg [⟨(some 4), none, .mov (.c (.bool true))⟩] (some [4]))
   (.ret)) (.skip)))
   (.seq (.rg [⟨(some 36), none, .mov (.t 0)⟩,
    ⟨(some 37), none, .call n_trail_New_int [(.t 36)]⟩,
    ⟨(some 35), none, .mov (.t 37)⟩,
    ⟨(some 38), none, .ext (.t 35) 0⟩,
    ⟨(some 39), none, .ext (.t 35) 1⟩,
    ⟨(some 5), none, .mov (.t 38)⟩,
    ⟨(some 6), none, .mov (.t 39)⟩] (some [0, 1, 5, 6]))
   (.seq (.rg [⟨(some 41), none, .mov (.t 0)⟩,
    ⟨(some 42), none, .call n_ref05_New [(.t 41)]⟩,
    ⟨(some 40), none, .mov (.t 42)⟩,
    ⟨(some 43), none, .ext (.t 40) 0⟩,
    ⟨(some 44), none, .ext (.t 40) 1⟩,
    ⟨(some 7), none, .mov (.t 43)⟩,
    ⟨(some 8), none, .mov (.t 44)⟩] (some [0, 1, 5, 6, 7, 8]))
   (.seq (.seq (.rg [⟨(some 45), none, .mov (.t 6)⟩,
    ⟨(some 46), none, .mov (.t 8)⟩,
    ⟨(some 47), none, .bin .neq (.t 45) (.t 46)⟩,
    ⟨(some 48), none, .mov (.t 47)⟩,
    ⟨(some 49), (some (48, false)), .mov (.t 5)⟩,
    ⟨(some 50), (some (48, false)), .nilq false 0 (.t 49)⟩,
    ⟨(some 51), (some (48, false)), .mov (.t 7)⟩,
    ⟨(some 52), (some (48, false)), .nilq false 0 (.t 51)⟩,
    ⟨(some 53), (some (48, false)), .eq true .bool (.t 50) (.t 52)⟩,
    ⟨(some 54), none, .pick (.t 48) (.c (.bool true)) (.t 53)⟩] (some [0, 1, 5, 7, 54]))
   (.cond (.t 54) (.seq (.rg [⟨(some 4), none, .mov (.c (.bool false))⟩] (some [4]))
   (.ret)) (.skip)))
   (.seq (.seq (.rg [⟨(some 55), none, .mov (.t 5)⟩,
    ⟨(some 56), none, .nilq false 0 (.t 55)⟩] (some [0, 1, 5, 7, 56]))
   (.cond (.t 56) (.seq (.rg [⟨(some 4), none, .mov (.c (.bool true))⟩] (some [4]))
   (.ret)) (.skip)))
   (.seq (.seq (.rg [⟨(some 57), none, .mov (.t 1)⟩,
    ⟨(some 58), none, .len (.t 57)⟩,
    ⟨(some 59), none, .mov (.c (.int .i64 0))⟩] (some [0, 5, 7, 57, 58, 59]))
   (.blk 0 (i_law05_TrailDoes_l1)))
   (.seq (.rg [⟨(some 167), none, .mov (.t 5)⟩,
    ⟨(some 168), none, .call n_trail_Trail_int_Get [(.t 167), (.c (.int .i64 (-1)))]⟩,
    ⟨(some 166), none, .mov (.t 168)⟩,
    ⟨(some 169), none, .ext (.t 166) 0⟩,
    ⟨(some 170), none, .ext (.t 166) 1⟩,
    ⟨(some 18), none, .mov (.t 169)⟩,
    ⟨(some 19), none, .mov (.t 170)⟩] (some [0, 5, 19]))
   (.seq (.rg [⟨(some 172), none, .mov (.t 5)⟩,
    ⟨(some 173), none, .mov (.t 0)⟩,
    ⟨(some 174), none, .call n_trail_Trail_int_Get [(.t 172), (.t 173)]⟩,
    ⟨(some 171), none, .mov (.t 174)⟩,
    ⟨(some 175), none, .ext (.t 171) 0⟩,
    ⟨(some 176), none, .ext (.t 171) 1⟩,
    ⟨(some 20), none, .mov (.t 175)⟩,
    ⟨(some 21), none, .mov (.t 176)⟩] (some [0, 5, 19, 21]))
   (.seq (.rg [⟨(some 177), none, .mov (.t 19)⟩,
    ⟨(some 178), none, .un .not (.t 177)⟩,
    ⟨(some 179), none, .mov (.t 178)⟩,
    ⟨(some 180), (some (179, true)), .mov (.t 21)⟩,
    ⟨(some 181), (some (179, true)), .un .not (.t 180)⟩,
    ⟨(some 182), none, .pick (.t 179) (.t 181) (.c (.bool false))⟩,
    ⟨(some 183), none, .mov (.t 182)⟩,
    ⟨(some 184), (some (183, true)), .mov (.t 5)⟩,
    ⟨(some 185), (some (183, true)), .call n_trail_Trail_int_Stamp [(.t 184), (.c (.int .i64 (-1)))]⟩,
    ⟨(some 186), (some (183, true)), .bin .eql (.t 185) (.c (.int .i64 0))⟩,
    ⟨(some 187), none, .pick (.t 183) (.t 186) (.c (.bool false))⟩,
    ⟨(some 188), none, .mov (.t 187)⟩,
    ⟨(some 189), (some (188, true)), .mov (.t 5)⟩,
    ⟨(some 190), (some (188, true)), .mov (.t 0)⟩,
    ⟨(some 191), (some (188, true)), .call n_trail_Trail_int_Stamp [(.t 189), (.t 190)]⟩,
    ⟨(some 192), (some (188, true)), .bin .eql (.t 191) (.c (.int .i64 0))⟩,
    ⟨(some 193), none, .pick (.t 188) (.t 192) (.c (.bool false))⟩,
    ⟨(some 4), none, .mov (.t 193)⟩] (some [4]))
   (.ret)))))))))))
def F_law05_TrailDoes : F := ⟨i_law05_TrailDoes, [(4, none)], false⟩
/-- stratagem/stratagemlaw05.TrailBack -/
def b_law05_TrailBack_0 : IR := .seq (.rg [⟨(some 60), none, .bin .lss (.t 59) (.t 58)⟩] (some [0, 2, 7, 9, 57, 58, 59, 60]))
   (.seq (.cond (.t 60) (.skip) (.ext 0))
   (.seq (.blk 1 (.seq (.rg [⟨(some 61), none, .iad 3 (.t 57) (.t 59)⟩,
    ⟨(some 62), none, .ld true 3 (.t 61)⟩,
    ⟨(some 12), none, .new (.agg [.int .i64 0, .int .i64 0, .int .i64 0])⟩,
    ⟨none, none, .st 3 (.t 12) (.t 62)⟩] (some [0, 2, 7, 9, 12, 57, 58, 59]))
   (.seq (.rg [⟨(some 63), none, .mov (.t 7)⟩,
    ⟨(some 64), none, .ld true 3 (.t 12)⟩,
    ⟨(some 65), none, .call n_law05_do [(.t 63), (.t 64)]⟩] (some [0, 2, 7, 9, 12, 57, 58, 59]))
   (.rg [⟨(some 66), none, .mov (.t 9)⟩,
    ⟨(some 67), none, .ld true 3 (.t 12)⟩,
    ⟨(some 68), none, .call n_law05_do [(.t 66), (.t 67)]⟩] (some [0, 2, 7, 9, 57, 58, 59])))))
   (.rg [⟨(some 69), none, .bin .add (.t 59) (.c (.int .i64 1))⟩,
    ⟨(some 59), none, .mov (.t 69)⟩] (some [0, 2, 7, 9, 57, 58, 59]))))
def i_law05_TrailBack_l0 : IR := .loop b_law05_TrailBack_0
theorem r_law05_TrailBack_0 {C : Cx} {Y : Yl} {fr : Fr} {h : List Ob} : evw C Y i_law05_TrailBack_l0 fr h = nxt (evw C Y b_law05_TrailBack_0 fr h) fun fr h => evw C Y i_law05_TrailBack_l0 fr h := w_loop
def b_law05_TrailBack_1 : IR := .seq (.rg [⟨(some 75), none, .bin .lss (.t 74) (.t 73)⟩] (some [0, 7, 9, 13, 72, 73, 74, 75]))
   (.seq (.cond (.t 75) (.skip) (.ext 2))
   (.seq (.blk 3 (.seq (.rg [⟨(some 76), none, .iad 3 (.t 72) (.t 74)⟩,
    ⟨(some 77), none, .ld true 3 (.t 76)⟩,
    ⟨(some 15), none, .new (.agg [.int .i64 0, .int .i64 0, .int .i64 0])⟩,
    ⟨none, none, .st 3 (.t 15) (.t 77)⟩] (some [0, 7, 9, 13, 15, 72, 73, 74]))
   (.seq (.seq (.rg [⟨(some 78), none, .fad 0 (.t 15)⟩,
    ⟨(some 79), none, .ld false 1 (.t 78)⟩,
    ⟨(some 80), none, .bin .eql (.t 79) (.c (.int .i64 2))⟩,
    ⟨(some 81), none, .mov (.t 80)⟩,
    ⟨(some 82), (some (81, true)), .mov (.t 7)⟩,
    ⟨(some 83), (some (81, true)), .call n_trail_Trail_int_Marks [(.t 82)]⟩,
    ⟨(some 84), (some (81, true)), .mov (.t 13)⟩,
    ⟨(some 85), (some (81, true)), .bin .leq (.t 83) (.t 84)⟩,
    ⟨(some 86), none, .pick (.t 81) (.t 85) (.c (.bool false))⟩] (some [0, 7, 9, 13, 15, 72, 73, 74, 86]))
   (.cond (.t 86) (.ext 3) (.skip)))
   (.rg [⟨(some 87), none, .mov (.t 7)⟩,
    ⟨(some 88), none, .ld true 3 (.t 15)⟩,
    ⟨(some 89), none, .call n_law05_do [(.t 87), (.t 88)]⟩] (some [0, 7, 9, 13, 72, 73, 74])))))
   (.rg [⟨(some 90), none, .bin .add (.t 74) (.c (.int .i64 1))⟩,
    ⟨(some 74), none, .mov (.t 90)⟩] (some [0, 7, 9, 13, 72, 73, 74]))))
def i_law05_TrailBack_l1 : IR := .loop b_law05_TrailBack_1
theorem r_law05_TrailBack_1 {C : Cx} {Y : Yl} {fr : Fr} {h : List Ob} : evw C Y i_law05_TrailBack_l1 fr h = nxt (evw C Y b_law05_TrailBack_1 fr h) fun fr h => evw C Y i_law05_TrailBack_l1 fr h := w_loop
def b_law05_TrailBack_2 : IR := .seq (.seq (.rg [⟨(some 91), none, .mov (.t 7)⟩,
    ⟨(some 92), none, .call n_trail_Trail_int_Marks [(.t 91)]⟩,
    ⟨(some 93), none, .mov (.t 13)⟩,
    ⟨(some 94), none, .bin .geq (.t 92) (.t 93)⟩] (some [0, 7, 9, 13, 94]))
   (.cond (.t 94) (.skip) (.ext 4)))
   (.blk 5 (.seq (.rg [⟨(some 95), none, .mov (.t 7)⟩,
    ⟨(some 96), none, .call n_trail_Trail_int_Undo [(.t 95)]⟩,
    ⟨(some 97), none, .bin .neq (.t 96) (.c (.int .i64 0))⟩] (some [0, 7, 9, 13, 97]))
   (.cond (.t 97) (.seq (.rg [⟨(some 6), none, .mov (.c (.bool false))⟩] (some [6]))
   (.ret)) (.skip))))
def i_law05_TrailBack_l2 : IR := .loop b_law05_TrailBack_2
theorem r_law05_TrailBack_2 {C : Cx} {Y : Yl} {fr : Fr} {h : List Ob} : evw C Y i_law05_TrailBack_l2 fr h = nxt (evw C Y b_law05_TrailBack_2 fr h) fun fr h => evw C Y i_law05_TrailBack_l2 fr h := w_loop
def b_law05_TrailBack_3 : IR := .seq (.rg [⟨(some 114), none, .bin .lss (.t 113) (.t 112)⟩] (some [7, 9, 112, 113, 114]))
   (.seq (.cond (.t 114) (.skip) (.ext 6))
   (.seq (.blk 7 (.seq (.rg [⟨(some 115), none, .mov (.t 113)⟩,
    ⟨(some 16), none, .mov (.t 115)⟩] (some [7, 9, 16, 112, 113]))
   (.seq (.rg [⟨(some 117), none, .mov (.t 7)⟩,
    ⟨(some 118), none, .mov (.t 16)⟩,
    ⟨(some 119), none, .call n_trail_Trail_int_Get [(.t 117), (.t 118)]⟩,
    ⟨(some 116), none, .mov (.t 119)⟩,
    ⟨(some 120), none, .ext (.t 116) 0⟩,
    ⟨(some 121), none, .ext (.t 116) 1⟩,
    ⟨(some 17), none, .mov (.t 120)⟩,
    ⟨(some 18), none, .mov (.t 121)⟩] (some [7, 9, 16, 17, 112, 113]))
   (.seq (.rg [⟨(some 123), none, .mov (.t 9)⟩,
    ⟨(some 124), none, .mov (.t 16)⟩,
    ⟨(some 125), none, .call n_trail_Trail_int_Get [(.t 123), (.t 124)]⟩,
    ⟨(some 122), none, .mov (.t 125)⟩,
    ⟨(some 126), none, .ext (.t 122) 0⟩,
    ⟨(some 127), none, .ext (.t 122) 1⟩,
    ⟨(some 19), none, .mov (.t 126)⟩,
    ⟨(some 20), none, .mov (.t 127)⟩] (some [7, 9, 16, 17, 19, 112, 113]))
   (.seq (.rg [⟨(some 128), none, .mov (.t 17)⟩,
    ⟨(some 129), none, .mov (.t 19)⟩,
    ⟨(some 130), none, .bin .neq (.t 128) (.t 129)⟩,
    ⟨(some 131), none, .mov (.t 130)⟩,
    ⟨(some 132), (some (131, false)), .mov (.t 7)⟩,
    ⟨(some 133), (some (131, false)), .mov (.t 16)⟩,
    ⟨(some 134), (some (131, false)), .call n_trail_Trail_int_Stamp [(.t 132), (.t 133)]⟩,
    ⟨(some 135), (some (131, false)), .mov (.t 9)⟩,
    ⟨(some 136), (some (131, false)), .mov (.t 16)⟩,
    ⟨(some 137), (some (131, false)), .call n_trail_Trail_int_Stamp [(.t 135), (.t 136)]⟩,
    ⟨(some 138), (some (131, false)), .bin .lss (.t 134) (.t 137)⟩,
    ⟨(some 139), none, .pick (.t 131) (.c (.bool true)) (.t 138)⟩] (some [7, 9, 112, 113, 139]))
   (.cond (.t 139) (.seq (.rg [⟨(some 6), none, .mov (.c (.bool false))⟩] (some [6]))
   (.ret)) (.skip)))))))
   (.rg [⟨(some 140), none, .bin .add (.t 113) (.c (.int .i64 1))⟩,
    ⟨(some 113), none, .mov (.t 140)⟩] (some [7, 9, 112, 113]))))
def i_law05_TrailBack_l3 : IR := .loop b_law05_TrailBack_3
theorem r_law05_TrailBack_3 {C : Cx} {Y : Yl} {fr : Fr} {h : List Ob} : evw C Y i_law05_TrailBack_l3 fr h = nxt (evw C Y b_law05_TrailBack_3 fr h) fun fr h => evw C Y i_law05_TrailBack_l3 fr h := w_loop
def i_law05_TrailBack : IR := .seq (.rg [⟨(some 6), none, .mov (.c (.bool false))⟩] (some [0, 1, 2]))
   (.seq (.seq (.rg [⟨(some 21), none, .call n_law05_awake []⟩,
    ⟨(some 22), none, .un .not (.t 21)⟩] (some [0, 1, 2, 22]))
   (.cond (.t 22) (.seq (.rg [⟨(some 6), none, .mov (.c (.bool false))⟩] (some [6]))
   (.ret)) (.skip)))
   (.seq (.seq (.rg [⟨(some 23), none, .mov (.t 0)⟩,
    ⟨(some 24), none, .bin .gtr (.t 23) (.c (.int .u8 40))⟩,
    ⟨(some 25), none, .mov (.t 24)⟩,
    ⟨(some 26), (some (25, false)), .mov (.t 1)⟩,
    ⟨(some 27), (some (25, false)), .len (.t 26)⟩,
    ⟨(some 28), (some (25, false)), .bin .gtr (.t 27) (.c (.int .i64 150))⟩,
    ⟨(some 29), none, .pick (.t 25) (.c (.bool true)) (.t 28)⟩,
    ⟨(some 30), none, .mov (.t 29)⟩,
    ⟨(some 31), (some (30, false)), .mov (.t 2)⟩,
    ⟨(some 32), (some (30, false)), .len (.t 31)⟩,
    ⟨(some 33), (some (30, false)), .bin .gtr (.t 32) (.c (.int .i64 150))⟩,
    ⟨(some 34), none, .pick (.t 30) (.c (.bool true)) (.t 33)⟩] (some [0, 1, 2, 34]))
   (.cond (.t 34) (.seq (.rg [⟨(some 6), none, .mov (.c (.bool true))⟩] (some [6]))
   (.ret)) (.skip)))
   (.seq (.rg [⟨(some 36), none, .mov (.t 0)⟩,
    ⟨(some 37), none, .conv .i64 (.t 36)⟩,
    ⟨(some 38), none, .call n_trail_New_int [(.t 37)]⟩,
    ⟨(some 35), none, .mov (.t 38)⟩,
    ⟨(some 39), none, .ext (.t 35) 0⟩,
    ⟨(some 40), none, .ext (.t 35) 1⟩,
    ⟨(some 7), none, .mov (.t 39)⟩,
    ⟨(some 8), none, .mov (.t 40)⟩] (some [0, 1, 2, 7, 8]))
   (.seq (.rg [⟨(some 42), none, .mov (.t 0)⟩,
    ⟨(some 43), none, .conv .i64 (.t 42)⟩,
    ⟨(some 44), none, .call n_trail_New_int [(.t 43)]⟩,
    ⟨(some 41), none, .mov (.t 44)⟩,
    ⟨(some 45), none, .ext (.t 41) 0⟩,
    ⟨(some 46), none, .ext (.t 41) 1⟩,
    ⟨(some 9), none, .mov (.t 45)⟩,
    ⟨(some 10), none, .mov (.t 46)⟩] (some [0, 1, 2, 7, 8, 9]))
   (.seq (.seq (.rg [⟨(some 47), none, .mov (.t 8)⟩,
    ⟨(some 48), none, .bin .neq (.t 47) (.c (.int .i64 0))⟩,
    ⟨(some 49), none, .mov (.t 48)⟩,
    ⟨(some 50), (some (49, false)), .mov (.t 7)⟩,
    ⟨(some 51), (some (49, false)), .nilq false 0 (.t 50)⟩,
    ⟨(some 52), none, .pick (.t 49) (.c (.bool true)) (.t 51)⟩,
    ⟨(some 53), none, .mov (.t 52)⟩,
    ⟨(some 54), (some (53, false)), .mov (.t 9)⟩,
    ⟨(some 55), (some (53, false)), .nilq false 0 (.t 54)⟩,
    ⟨(some 56), none, .pick (.t 53) (.c (.bool true)) (.t 55)⟩] (some [0, 1, 2, 7, 9, 56]))
   (.cond (.t 56) (.seq (.rg [⟨(some 6), none, .mov (.c (.bool false))⟩] (some [6]))
   (.ret)) (.skip)))
   (.seq (.seq (.rg [⟨(some 57), none, .mov (.t 1)⟩,
    ⟨(some 58), none, .len (.t 57)⟩,
    ⟨(some 59), none, .mov (.c (.int .i64 0))⟩] (some [0, 2, 7, 9, 57, 58, 59]))
   (.blk 0 (i_law05_TrailBack_l0)))
   (.seq (.rg [⟨(some 70), none, .mov (.t 7)⟩,
    ⟨(some 71), none, .call n_trail_Trail_int_Save [(.t 70)]⟩,
    ⟨(some 13), none, .mov (.t 71)⟩] (some [0, 2, 7, 9, 13]))
   (.seq (.seq (.rg [⟨(some 72), none, .mov (.t 2)⟩,
    ⟨(some 73), none, .len (.t 72)⟩,
    ⟨(some 74), none, .mov (.c (.int .i64 0))⟩] (some [0, 7, 9, 13, 72, 73, 74]))
   (.blk 2 (i_law05_TrailBack_l1)))
   (.seq (.blk 4 (i_law05_TrailBack_l2))
   (.seq (.seq (.rg [⟨(some 98), none, .mov (.t 7)⟩,
    ⟨(some 99), none, .call n_trail_Trail_int_Marks [(.t 98)]⟩,
    ⟨(some 100), none, .mov (.t 9)⟩,
    ⟨(some 101), none, .call n_trail_Trail_int_Marks [(.t 100)]⟩,
    ⟨(some 102), none, .bin .neq (.t 99) (.t 101)⟩,
    ⟨(some 103), none, .mov (.t 102)⟩,
    ⟨(some 104), (some (103, false)), .mov (.t 7)⟩,
    ⟨(some 105), (some (103, false)), .call n_trail_Trail_int_Changed [(.t 104)]⟩,
    ⟨(some 106), (some (103, false)), .mov (.t 9)⟩,
    ⟨(some 107), (some (103, false)), .call n_trail_Trail_int_Changed [(.t 106)]⟩,
    ⟨(some 108), (some (103, false)), .call n_ref02_Same [(.t 105), (.t 107)]⟩,
    ⟨(some 109), (some (103, false)), .un .not (.t 108)⟩,
    ⟨(some 110), none, .pick (.t 103) (.c (.bool true)) (.t 109)⟩] (some [0, 7, 9, 110]))
   (.cond (.t 110) (.seq (.rg [⟨(some 6), none, .mov (.c (.bool false))⟩] (some [6]))
   (.ret)) (.skip)))
   (.seq (.seq (.rg [⟨(some 111), none, .mov (.t 0)⟩,
    ⟨(some 112), none, .conv .i64 (.t 111)⟩,
    ⟨(some 113), none, .mov (.c (.int .i64 0))⟩] (some [7, 9, 112, 113]))
   (.blk 6 (i_law05_TrailBack_l3)))
   (.seq (.rg [⟨(some 6), none, .mov (.c (.bool true))⟩] (some [6]))
   (.ret)))))))))))))
def F_law05_TrailBack : F := ⟨i_law05_TrailBack, [(6, none)], false⟩
/-- stratagem/stratagemlaw05.TrailTypes -/
def b_law05_TrailTypes_0 : IR := .seq (.rg [⟨(some 108), none, .bin .lss (.t 107) (.t 106)⟩] (some [0, 5, 7, 49, 50, 51, 106, 107, 108]))
   (.seq (.cond (.t 108) (.skip) (.ext 3))
   (.seq (.blk 4 (.seq (.rg [⟨(some 109), none, .mov (.t 107)⟩,
    ⟨(some 17), none, .mov (.t 109)⟩] (some [0, 5, 7, 17, 49, 50, 51, 106, 107]))
   (.seq (.rg [⟨(some 111), none, .mov (.t 5)⟩,
    ⟨(some 112), none, .mov (.t 17)⟩,
    ⟨(some 113), none, .call n_trail_Trail_int_Get [(.t 111), (.t 112)]⟩,
    ⟨(some 110), none, .mov (.t 113)⟩,
    ⟨(some 114), none, .ext (.t 110) 0⟩,
    ⟨(some 115), none, .ext (.t 110) 1⟩,
    ⟨(some 18), none, .mov (.t 114)⟩,
    ⟨(some 19), none, .mov (.t 115)⟩] (some [0, 5, 7, 17, 18, 49, 50, 51, 106, 107]))
   (.seq (.rg [⟨(some 117), none, .mov (.t 7)⟩,
    ⟨(some 118), none, .mov (.t 17)⟩,
    ⟨(some 119), none, .call n_trail_Trail_string_Get [(.t 117), (.t 118)]⟩,
    ⟨(some 116), none, .mov (.t 119)⟩,
    ⟨(some 120), none, .ext (.t 116) 0⟩,
    ⟨(some 121), none, .ext (.t 116) 1⟩,
    ⟨(some 20), none, .mov (.t 120)⟩,
    ⟨(some 21), none, .mov (.t 121)⟩] (some [0, 5, 7, 17, 18, 20, 49, 50, 51, 106, 107]))
   (.seq (.rg [⟨(some 122), none, .mov (.t 18)⟩,
    ⟨(some 123), none, .bin .eql (.t 122) (.c (.int .i64 0))⟩,
    ⟨(some 124), none, .mov (.t 20)⟩,
    ⟨(some 125), none, .bin .eql (.t 124) (.c (.str []))⟩,
    ⟨(some 126), none, .eq true .bool (.t 123) (.t 125)⟩,
    ⟨(some 127), none, .mov (.t 126)⟩,
    ⟨(some 128), (some (127, false)), .mov (.t 18)⟩,
    ⟨(some 129), (some (127, false)), .bin .neq (.t 128) (.c (.int .i64 0))⟩,
    ⟨(some 130), (some (127, false)), .mov (.t 129)⟩,
    ⟨(some 131), (some (130, true)), .mov (.t 20)⟩,
    ⟨(some 132), (some (130, true)), .mov (.t 18)⟩,
    ⟨(some 133), (some (130, true)), .conv .u8 (.t 132)⟩,
    ⟨(some 134), (some (130, true)), .bsl (.int .u8 0) 1 [(0, (.t 133))]⟩,
    ⟨(some 135), (some (130, true)), .b2s (.t 134)⟩,
    ⟨(some 136), (some (130, true)), .bin .neq (.t 131) (.t 135)⟩,
    ⟨(some 137), (some (127, false)), .pick (.t 130) (.t 136) (.c (.bool false))⟩,
    ⟨(some 138), none, .pick (.t 127) (.c (.bool true)) (.t 137)⟩,
    ⟨(some 139), none, .mov (.t 138)⟩,
    ⟨(some 140), (some (139, false)), .mov (.t 5)⟩,
    ⟨(some 141), (some (139, false)), .mov (.t 17)⟩,
    ⟨(some 142), (some (139, false)), .call n_trail_Trail_int_Stamp [(.t 140), (.t 141)]⟩,
    ⟨(some 143), (some (139, false)), .mov (.t 7)⟩,
    ⟨(some 144), (some (139, false)), .mov (.t 17)⟩,
    ⟨(some 145), (some (139, false)), .call n_trail_Trail_string_Stamp [(.t 143), (.t 144)]⟩,
    ⟨(some 146), (some (139, false)), .bin .neq (.t 142) (.t 145)⟩,
    ⟨(some 147), none, .pick (.t 139) (.c (.bool true)) (.t 146)⟩] (some [0, 5, 7, 49, 50, 51, 106, 107, 147]))
   (.cond (.t 147) (.seq (.rg [⟨(some 4), none, .mov (.c (.bool false))⟩] (some [4]))
   (.ret)) (.skip)))))))
   (.rg [⟨(some 148), none, .bin .add (.t 107) (.c (.int .i64 1))⟩,
    ⟨(some 107), none, .mov (.t 148)⟩] (some [0, 5, 7, 49, 50, 51, 106, 107]))))
def i_law05_TrailTypes_l0 : IR := .loop b_law05_TrailTypes_0
theorem r_law05_TrailTypes_0 {C : Cx} {Y : Yl} {fr : Fr} {h : List Ob} : evw C Y i_law05_TrailTypes_l0 fr h = nxt (evw C Y b_law05_TrailTypes_0 fr h) fun fr h => evw C Y i_law05_TrailTypes_l0 fr h := w_loop
def b_law05_TrailTypes_1 : IR := .seq (.rg [⟨(some 52), none, .bin .lss (.t 51) (.t 50)⟩] (some [0, 5, 7, 49, 50, 51, 52]))
   (.seq (.cond (.t 52) (.skip) (.ext 0))
   (.seq (.blk 1 (.seq (.rg [⟨(some 53), none, .iad 3 (.t 49) (.t 51)⟩,
    ⟨(some 54), none, .ld true 3 (.t 53)⟩,
    ⟨(some 10), none, .new (.agg [.int .i64 0, .int .i64 0, .int .i64 0])⟩,
    ⟨none, none, .st 3 (.t 10) (.t 54)⟩] (some [0, 5, 7, 10, 49, 50, 51]))
   (.seq (.rg [⟨(some 55), none, .fad 2 (.t 10)⟩,
    ⟨(some 56), none, .ld false 1 (.t 55)⟩,
    ⟨(some 57), none, .bin .and (.t 56) (.c (.int .i64 255))⟩,
    ⟨(some 11), none, .mov (.t 57)⟩] (some [0, 5, 7, 10, 11, 49, 50, 51]))
   (.seq (.rg [⟨(some 12), none, .mov (.c (.str []))⟩] (some [0, 5, 7, 10, 11, 12, 49, 50, 51]))
   (.seq (.seq (.rg [⟨(some 58), none, .mov (.t 11)⟩,
    ⟨(some 59), none, .bin .gtr (.t 58) (.c (.int .i64 0))⟩] (some [0, 5, 7, 10, 11, 12, 49, 50, 51, 59]))
   (.cond (.t 59) (.rg [⟨(some 60), none, .mov (.t 11)⟩,
    ⟨(some 61), none, .conv .u8 (.t 60)⟩,
    ⟨(some 62), none, .bsl (.int .u8 0) 1 [(0, (.t 61))]⟩,
    ⟨(some 63), none, .b2s (.t 62)⟩,
    ⟨(some 12), none, .mov (.t 63)⟩] (some [0, 5, 7, 10, 11, 12, 49, 50, 51])) (.skip)))
   (.seq (.rg [⟨(some 64), none, .mov (.t 11)⟩,
    ⟨(some 65), none, .fad 2 (.t 10)⟩,
    ⟨none, none, .st 1 (.t 65) (.t 64)⟩] (some [0, 5, 7, 10, 12, 49, 50, 51]))
   (.seq (.rg [⟨(some 67), none, .mov (.t 5)⟩,
    ⟨(some 68), none, .ld true 3 (.t 10)⟩,
    ⟨(some 69), none, .call n_law05_do [(.t 67), (.t 68)]⟩,
    ⟨(some 66), none, .mov (.t 69)⟩,
    ⟨(some 70), none, .ext (.t 66) 0⟩,
    ⟨(some 71), none, .ext (.t 66) 1⟩,
    ⟨(some 13), none, .mov (.t 70)⟩,
    ⟨(some 14), none, .mov (.t 71)⟩] (some [0, 5, 7, 10, 12, 13, 14, 49, 50, 51]))
   (.seq (.rg [⟨(some 15), none, .mov (.c (.int .i64 0))⟩,
    ⟨(some 16), none, .mov (.c (.int .i64 0))⟩] (some [0, 5, 7, 10, 12, 13, 14, 15, 16, 49, 50, 51]))
   (.seq (.seq (.rg [⟨(some 72), none, .fad 0 (.t 10)⟩,
    ⟨(some 73), none, .ld false 1 (.t 72)⟩] (some [0, 5, 7, 10, 12, 13, 14, 15, 16, 49, 50, 51, 73]))
   (.blk 2 (.seq (.rg [⟨(some 75), none, .bin .eql (.t 73) (.c (.int .i64 0))⟩,
    ⟨(some 74), none, .mov (.t 75)⟩] (some [0, 5, 7, 10, 12, 13, 14, 15, 16, 49, 50, 51, 73, 74]))
   (.cond (.t 74) (.rg [⟨(some 76), none, .mov (.t 7)⟩,
    ⟨(some 77), none, .fad 1 (.t 10)⟩,
    ⟨(some 78), none, .ld false 1 (.t 77)⟩,
    ⟨(some 79), none, .mov (.t 12)⟩,
    ⟨(some 80), none, .call n_trail_Trail_string_Set [(.t 76), (.t 78), (.t 79)]⟩,
    ⟨(some 15), none, .mov (.t 80)⟩] (some [0, 5, 7, 13, 14, 15, 16, 49, 50, 51])) (.seq (.rg [⟨(some 82), none, .bin .eql (.t 73) (.c (.int .i64 1))⟩,
    ⟨(some 81), none, .mov (.t 82)⟩] (some [0, 5, 7, 13, 14, 15, 16, 49, 50, 51, 73, 81]))
   (.cond (.t 81) (.rg [⟨(some 83), none, .mov (.t 7)⟩,
    ⟨(some 84), none, .call n_trail_Trail_string_Save [(.t 83)]⟩,
    ⟨(some 16), none, .mov (.t 84)⟩] (some [0, 5, 7, 13, 14, 15, 16, 49, 50, 51])) (.seq (.rg [⟨(some 86), none, .bin .eql (.t 73) (.c (.int .i64 2))⟩,
    ⟨(some 85), none, .mov (.t 86)⟩] (some [0, 5, 7, 13, 14, 15, 16, 49, 50, 51, 85]))
   (.cond (.t 85) (.rg [⟨(some 87), none, .mov (.t 7)⟩,
    ⟨(some 88), none, .call n_trail_Trail_string_Undo [(.t 87)]⟩,
    ⟨(some 15), none, .mov (.t 88)⟩] (some [0, 5, 7, 13, 14, 15, 16, 49, 50, 51])) (.skip)))))))))
   (.seq (.seq (.rg [⟨(some 89), none, .mov (.t 13)⟩,
    ⟨(some 90), none, .mov (.t 15)⟩,
    ⟨(some 91), none, .bin .neq (.t 89) (.t 90)⟩,
    ⟨(some 92), none, .mov (.t 91)⟩,
    ⟨(some 93), (some (92, false)), .mov (.t 14)⟩,
    ⟨(some 94), (some (92, false)), .mov (.t 16)⟩,
    ⟨(some 95), (some (92, false)), .bin .neq (.t 93) (.t 94)⟩,
    ⟨(some 96), none, .pick (.t 92) (.c (.bool true)) (.t 95)⟩,
    ⟨(some 97), none, .mov (.t 96)⟩,
    ⟨(some 98), (some (97, false)), .mov (.t 5)⟩,
    ⟨(some 99), (some (97, false)), .call n_trail_Trail_int_Changed [(.t 98)]⟩,
    ⟨(some 100), (some (97, false)), .mov (.t 7)⟩,
    ⟨(some 101), (some (97, false)), .call n_trail_Trail_string_Changed [(.t 100)]⟩,
    ⟨(some 102), (some (97, false)), .call n_ref02_Same [(.t 99), (.t 101)]⟩,
    ⟨(some 103), (some (97, false)), .un .not (.t 102)⟩,
    ⟨(some 104), none, .pick (.t 97) (.c (.bool true)) (.t 103)⟩] (some [0, 5, 7, 49, 50, 51, 104]))
   (.cond (.t 104) (.seq (.rg [⟨(some 4), none, .mov (.c (.bool false))⟩] (some [4]))
   (.ret)) (.skip)))
   (.seq (.rg [⟨(some 105), none, .mov (.t 0)⟩,
    ⟨(some 106), none, .conv .i64 (.t 105)⟩,
    ⟨(some 107), none, .mov (.c (.int .i64 0))⟩] (some [0, 5, 7, 49, 50, 51, 106, 107]))
   (.blk 3 (i_law05_TrailTypes_l0)))))))))))))
   (.rg [⟨(some 149), none, .bin .add (.t 51) (.c (.int .i64 1))⟩,
    ⟨(some 51), none, .mov (.t 149)⟩] (some [0, 5, 7, 49, 50, 51]))))
def i_law05_TrailTypes_l1 : IR := .loop b_law05_TrailTypes_1
theorem r_law05_TrailTypes_1 {C : Cx} {Y : Yl} {fr : Fr} {h : List Ob} : evw C Y i_law05_TrailTypes_l1 fr h = nxt (evw C Y b_law05_TrailTypes_1 fr h) fun fr h => evw C Y i_law05_TrailTypes_l1 fr h := w_loop
def i_law05_TrailTypes : IR := .seq (.rg [⟨(some 4), none, .mov (.c (.bool false))⟩] (some [0, 1]))
   (.seq (.seq (.rg [⟨(some 22), none, .call n_law05_awake []⟩,
    ⟨(some 23), none, .un .not (.t 22)⟩] (some [0, 1, 23]))
   (.cond (.t 23) (.seq (.rg [⟨(some 4), none, .mov (.c (.bool false))⟩] (some [4]))
   (.ret)) (.skip)))
   (.seq (.seq (.rg [⟨(some 24), none, .mov (.t 0)⟩,
    ⟨(some 25), none, .bin .gtr (.t 24) (.c (.int .u8 40))⟩,
    ⟨(some 26), none, .mov (.t 25)⟩,
    ⟨(some 27), (some (26, false)), .mov (.t 1)⟩,
    ⟨(some 28), (some (26, false)), .len (.t 27)⟩,
    ⟨(some 29), (some (26, false)), .bin .gtr (.t 28) (.c (.int .i64 150))⟩,
    ⟨(some 30), none, .pick (.t 26) (.c (.bool true)) (.t 29)⟩] (some [0, 1, 30]))
   (.cond (.t 30) (.seq (.rg [⟨(some 4), none, .mov (.c (.bool true))⟩] (some [4]))
   (.ret)) (.skip)))
   (.seq (.rg [⟨(some 32), none, .mov (.t 0)⟩,
    ⟨(some 33), none, .conv .i64 (.t 32)⟩,
    ⟨(some 34), none, .call n_trail_New_int [(.t 33)]⟩,
    ⟨(some 31), none, .mov (.t 34)⟩,
    ⟨(some 35), none, .ext (.t 31) 0⟩,
    ⟨(some 36), none, .ext (.t 31) 1⟩,
    ⟨(some 5), none, .mov (.t 35)⟩,
    ⟨(some 6), none, .mov (.t 36)⟩] (some [0, 1, 5]))
   (.seq (.rg [⟨(some 38), none, .mov (.t 0)⟩,
    ⟨(some 39), none, .conv .i64 (.t 38)⟩,
    ⟨(some 40), none, .call n_trail_New_string [(.t 39)]⟩,
    ⟨(some 37), none, .mov (.t 40)⟩,
    ⟨(some 41), none, .ext (.t 37) 0⟩,
    ⟨(some 42), none, .ext (.t 37) 1⟩,
    ⟨(some 7), none, .mov (.t 41)⟩,
    ⟨(some 8), none, .mov (.t 42)⟩] (some [0, 1, 5, 7]))
   (.seq (.seq (.rg [⟨(some 43), none, .mov (.t 5)⟩,
    ⟨(some 44), none, .nilq false 0 (.t 43)⟩,
    ⟨(some 45), none, .mov (.t 44)⟩,
    ⟨(some 46), (some (45, false)), .mov (.t 7)⟩,
    ⟨(some 47), (some (45, false)), .nilq false 0 (.t 46)⟩,
    ⟨(some 48), none, .pick (.t 45) (.c (.bool true)) (.t 47)⟩] (some [0, 1, 5, 7, 48]))
   (.cond (.t 48) (.seq (.rg [⟨(some 4), none, .mov (.c (.bool false))⟩] (some [4]))
   (.ret)) (.skip)))
   (.seq (.seq (.rg [⟨(some 49), none, .mov (.t 1)⟩,
    ⟨(some 50), none, .len (.t 49)⟩,
    ⟨(some 51), none, .mov (.c (.int .i64 0))⟩] (some [0, 5, 7, 49, 50, 51]))
   (.blk 0 (i_law05_TrailTypes_l1)))
   (.seq (.rg [⟨(some 4), none, .mov (.c (.bool true))⟩] (some [4]))
   (.ret))))))))
def F_law05_TrailTypes : F := ⟨i_law05_TrailTypes, [(4, none)], false⟩
/-- stratagem/stratagemlaw05.awake -/
def i_law05_awake : IR := .seq (.rg [⟨(some 0), none, .mov (.c (.bool false))⟩] (some []))
   (.seq (.rg [⟨(some 14), none, .call n_trail_New_int [(.c (.int .i64 2))]⟩,
    ⟨(some 13), none, .mov (.t 14)⟩,
    ⟨(some 15), none, .ext (.t 13) 0⟩,
    ⟨(some 16), none, .ext (.t 13) 1⟩,
    ⟨(some 1), none, .mov (.t 15)⟩,
    ⟨(some 2), none, .mov (.t 16)⟩] (some [1, 2]))
   (.seq (.rg [⟨(some 18), none, .call n_trail_New_int [(.c (.int .i64 1001))]⟩,
    ⟨(some 17), none, .mov (.t 18)⟩,
    ⟨(some 19), none, .ext (.t 17) 0⟩,
    ⟨(some 20), none, .ext (.t 17) 1⟩,
    ⟨(some 3), none, .mov (.t 19)⟩,
    ⟨(some 4), none, .mov (.t 20)⟩] (some [1, 2, 4]))
   (.seq (.seq (.rg [⟨(some 21), none, .mov (.t 1)⟩,
    ⟨(some 22), none, .nilq false 0 (.t 21)⟩] (some [1, 2, 4, 22]))
   (.cond (.t 22) (.seq (.rg [⟨(some 0), none, .mov (.c (.bool false))⟩] (some [0]))
   (.ret)) (.skip)))
   (.seq (.rg [⟨(some 23), none, .mov (.t 1)⟩,
    ⟨(some 24), none, .call n_trail_Trail_int_Set [(.t 23), (.c (.int .i64 0)), (.c (.int .i64 5))]⟩] (some [1, 2, 4]))
   (.seq (.rg [⟨(some 25), none, .mov (.t 1)⟩,
    ⟨(some 26), none, .call n_trail_Trail_int_Save [(.t 25)]⟩,
    ⟨(some 5), none, .mov (.t 26)⟩] (some [1, 2, 4, 5]))
   (.seq (.rg [⟨(some 27), none, .mov (.t 1)⟩,
    ⟨(some 28), none, .call n_trail_Trail_int_Set [(.t 27), (.c (.int .i64 0)), (.c (.int .i64 6))]⟩] (some [1, 2, 4, 5]))
   (.seq (.rg [⟨(some 29), none, .mov (.t 1)⟩,
    ⟨(some 30), none, .call n_trail_Trail_int_Set [(.t 29), (.c (.int .i64 0)), (.c (.int .i64 7))]⟩] (some [1, 2, 4, 5]))
   (.seq (.rg [⟨(some 31), none, .mov (.t 1)⟩,
    ⟨(some 32), none, .call n_trail_Trail_int_Changed [(.t 31)]⟩,
    ⟨(some 6), none, .mov (.t 32)⟩] (some [1, 2, 4, 5, 6]))
   (.seq (.rg [⟨(some 33), none, .mov (.t 1)⟩,
    ⟨(some 34), none, .call n_trail_Trail_int_Undo [(.t 33)]⟩,
    ⟨(some 7), none, .mov (.t 34)⟩] (some [1, 2, 4, 5, 6, 7]))
   (.seq (.rg [⟨(some 35), none, .mov (.t 1)⟩,
    ⟨(some 36), none, .call n_trail_Trail_int_Undo [(.t 35)]⟩,
    ⟨(some 8), none, .mov (.t 36)⟩] (some [1, 2, 4, 5, 6, 7, 8]))
   (.seq (.rg [⟨(some 38), none, .mov (.t 1)⟩,
    ⟨(some 39), none, .call n_trail_Trail_int_Get [(.t 38), (.c (.int .i64 0))]⟩,
    ⟨(some 37), none, .mov (.t 39)⟩,
    ⟨(some 40), none, .ext (.t 37) 0⟩,
    ⟨(some 41), none, .ext (.t 37) 1⟩,
    ⟨(some 9), none, .mov (.t 40)⟩,
    ⟨(some 10), none, .mov (.t 41)⟩] (some [1, 2, 4, 5, 6, 7, 8, 9, 10]))
   (.seq (.rg [⟨(some 43), none, .mov (.t 1)⟩,
    ⟨(some 44), none, .call n_trail_Trail_int_Get [(.t 43), (.c (.int .i64 2))]⟩,
    ⟨(some 42), none, .mov (.t 44)⟩,
    ⟨(some 45), none, .ext (.t 42) 0⟩,
    ⟨(some 46), none, .ext (.t 42) 1⟩,
    ⟨(some 11), none, .mov (.t 45)⟩,
    ⟨(some 12), none, .mov (.t 46)⟩] (some [1, 2, 4, 5, 6, 7, 8, 9, 10, 12]))
   (.seq (.rg [⟨(some 47), none, .mov (.t 2)⟩,
    ⟨(some 48), none, .bin .eql (.t 47) (.c (.int .i64 0))⟩,
    ⟨(some 49), none, .mov (.t 48)⟩,
    ⟨(some 50), (some (49, true)), .mov (.t 4)⟩,
    ⟨(some 51), (some (49, true)), .bin .eql (.t 50) (.c (.int .i64 1))⟩,
    ⟨(some 52), none, .pick (.t 49) (.t 51) (.c (.bool false))⟩,
    ⟨(some 53), none, .mov (.t 52)⟩,
    ⟨(some 54), (some (53, true)), .mov (.t 5)⟩,
    ⟨(some 55), (some (53, true)), .bin .eql (.t 54) (.c (.int .i64 1))⟩,
    ⟨(some 56), none, .pick (.t 53) (.t 55) (.c (.bool false))⟩,
    ⟨(some 57), none, .mov (.t 56)⟩,
    ⟨(some 58), (some (57, true)), .mov (.t 6)⟩,
    ⟨(some 59), (some (57, true)), .bsf (.int .i64 0) 1 [(0, (.c (.int .i64 0)))]⟩,
    ⟨(some 60), (some (57, true)), .call n_ref02_Same [(.t 58), (.t 59)]⟩,
    ⟨(some 61), none, .pick (.t 57) (.t 60) (.c (.bool false))⟩,
    ⟨(some 62), none, .mov (.t 61)⟩,
    ⟨(some 63), (some (62, true)), .mov (.t 7)⟩,
    ⟨(some 64), (some (62, true)), .bin .eql (.t 63) (.c (.int .i64 0))⟩,
    ⟨(some 65), none, .pick (.t 62) (.t 64) (.c (.bool false))⟩,
    ⟨(some 66), none, .mov (.t 65)⟩,
    ⟨(some 67), (some (66, true)), .mov (.t 8)⟩,
    ⟨(some 68), (some (66, true)), .bin .eql (.t 67) (.c (.int .i64 9))⟩,
    ⟨(some 69), none, .pick (.t 66) (.t 68) (.c (.bool false))⟩,
    ⟨(some 70), none, .mov (.t 69)⟩,
    ⟨(some 71), (some (70, true)), .mov (.t 9)⟩,
    ⟨(some 72), (some (70, true)), .bin .eql (.t 71) (.c (.int .i64 5))⟩,
    ⟨(some 73), none, .pick (.t 70) (.t 72) (.c (.bool false))⟩,
    ⟨(some 74), none, .mov (.t 73)⟩,
    ⟨(some 75), (some (74, true)), .mov (.t 10)⟩,
    ⟨(some 76), none, .pick (.t 74) (.t 75) (.c (.bool false))⟩,
    ⟨(some 77), none, .mov (.t 76)⟩,
    ⟨(some 78), (some (77, true)), .mov (.t 12)⟩,
    ⟨(some 79), (some (77, true)), .un .not (.t 78)⟩,
    ⟨(some 80), none, .pick (.t 77) (.t 79) (.c (.bool false))⟩,
    ⟨(some 81), none, .mov (.t 80)⟩,
    ⟨(some 82), (some (81, true)), .mov (.t 1)⟩,
    ⟨(some 83), (some (81, true)), .call n_trail_Trail_int_Stamp [(.t 82), (.c (.int .i64 0))]⟩,
    ⟨(some 84), (some (81, true)), .bin .eql (.t 83) (.c (.int .i64 4))⟩,
    ⟨(some 85), none, .pick (.t 81) (.t 84) (.c (.bool false))⟩,
    ⟨(some 86), none, .mov (.t 85)⟩,
    ⟨(some 87), (some (86, true)), .mov (.t 1)⟩,
    ⟨(some 88), (some (86, true)), .call n_trail_Trail_int_Stamp [(.t 87), (.c (.int .i64 1))]⟩,
    ⟨(some 89), (some (86, true)), .bin .eql (.t 88) (.c (.int .i64 0))⟩,
    ⟨(some 90), none, .pick (.t 86) (.t 89) (.c (.bool false))⟩,
    ⟨(some 91), none, .mov (.t 90)⟩,
    ⟨(some 92), (some (91, true)), .mov (.t 1)⟩,
    ⟨(some 93), (some (91, true)), .call n_trail_Trail_int_Marks [(.t 92)]⟩,
    ⟨(some 94), (some (91, true)), .bin .eql (.t 93) (.c (.int .i64 0))⟩,
    ⟨(some 95), none, .pick (.t 91) (.t 94) (.c (.bool false))⟩,
    ⟨(some 96), none, .mov (.t 95)⟩,
    ⟨(some 97), (some (96, true)), .mov (.t 1)⟩,
    ⟨(some 98), (some (96, true)), .call n_trail_Trail_int_Len [(.t 97)]⟩,
    ⟨(some 99), (some (96, true)), .bin .eql (.t 98) (.c (.int .i64 2))⟩,
    ⟨(some 100), none, .pick (.t 96) (.t 99) (.c (.bool false))⟩,
    ⟨(some 101), none, .mov (.t 100)⟩,
    ⟨(some 102), (some (101, true)), .mov (.t 1)⟩,
    ⟨(some 103), (some (101, true)), .call n_trail_Trail_int_Set [(.t 102), (.c (.int .i64 2)), (.c (.int .i64 1))]⟩,
    ⟨(some 104), (some (101, true)), .bin .eql (.t 103) (.c (.int .i64 1))⟩,
    ⟨(some 105), none, .pick (.t 101) (.t 104) (.c (.bool false))⟩,
    ⟨(some 0), none, .mov (.t 105)⟩] (some [0]))
   (.ret))))))))))))))
def F_law05_awake : F := ⟨i_law05_awake, [(0, none)], false⟩
/-- stratagem/trail.New[int] -/
def i_trail_New_int : IR := .seq (.rg [⟨(some 2), none, .mov (.c (.nilp))⟩,
    ⟨(some 3), none, .mov (.c (.int .i64 0))⟩] (some [0]))
   (.seq (.seq (.rg [⟨(some 4), none, .mov (.t 0)⟩,
    ⟨(some 5), none, .bin .lss (.t 4) (.c (.int .i64 0))⟩,
    ⟨(some 6), none, .mov (.t 5)⟩,
    ⟨(some 7), (some (6, false)), .mov (.t 0)⟩,
    ⟨(some 8), (some (6, false)), .bin .gtr (.t 7) (.c (.int .i64 1000))⟩,
    ⟨(some 9), none, .pick (.t 6) (.c (.bool true)) (.t 8)⟩] (some [0, 9]))
   (.cond (.t 9) (.seq (.rg [⟨(some 2), none, .mov (.c (.nilp))⟩,
    ⟨(some 3), none, .mov (.c (.int .i64 1))⟩] (some [2, 3]))
   (.ret)) (.skip)))
   (.seq (.dr [(⟨(some 10), none, .mov (.t 0)⟩, []),
    (⟨(some 11), none, .mks 8 (.int .i64 0) (.t 10) (.t 10)⟩, [0]),
    (⟨(some 12), none, .mov (.t 0)⟩, []),
    (⟨(some 13), none, .mks 8 (.int .i64 0) (.t 12) (.t 12)⟩, [2]),
    (⟨(some 14), none, .op .mkm []⟩, []),
    (⟨(some 15), none, .bsl (.nmp) 1 [(0, (.t 14))]⟩, [4]),
    (⟨(some 16), none, .bld [.nsl 1, .nsl 1, .nsl 1] [(0, 1, (.t 11)), (1, 1, (.t 13)), (2, 1, (.t 15))]⟩, [0, 1, 2, 3, 4, 5]),
    (⟨(some 17), none, .box (.t 16)⟩, [0, 1, 2, 3, 4, 5, 6]),
    (⟨(some 2), none, .mov (.t 17)⟩, [0, 1, 2, 3, 4, 5, 6, 7]),
    (⟨(some 3), none, .mov (.c (.int .i64 0))⟩, [0, 1, 2, 3, 4, 5, 6, 7, 8])] (some [2, 3]))
   (.ret)))
def F_trail_New_int : F := ⟨i_trail_New_int, [(2, none), (3, none)], true⟩
/-- stratagem/stratagemref05.New -/
def i_ref05_New : IR := .seq (.rg [⟨(some 2), none, .mov (.c (.nilp))⟩,
    ⟨(some 3), none, .mov (.c (.int .i64 0))⟩] (some [0]))
   (.seq (.seq (.rg [⟨(some 4), none, .mov (.t 0)⟩,
    ⟨(some 5), none, .bin .lss (.t 4) (.c (.int .i64 0))⟩,
    ⟨(some 6), none, .mov (.t 5)⟩,
    ⟨(some 7), (some (6, false)), .mov (.t 0)⟩,
    ⟨(some 8), (some (6, false)), .bin .gtr (.t 7) (.c (.int .i64 1000))⟩,
    ⟨(some 9), none, .pick (.t 6) (.c (.bool true)) (.t 8)⟩] (some [0, 9]))
   (.cond (.t 9) (.seq (.rg [⟨(some 2), none, .mov (.c (.nilp))⟩,
    ⟨(some 3), none, .mov (.c (.int .i64 1))⟩] (some [2, 3]))
   (.ret)) (.skip)))
   (.seq (.dr [(⟨(some 10), none, .mov (.t 0)⟩, []),
    (⟨(some 11), none, .mks 8 (.int .i64 0) (.t 10) (.t 10)⟩, [0]),
    (⟨(some 12), none, .mov (.t 0)⟩, []),
    (⟨(some 13), none, .mks 8 (.int .i64 0) (.t 12) (.t 12)⟩, [2]),
    (⟨(some 14), none, .mov (.t 0)⟩, []),
    (⟨(some 15), none, .mks 8 (.int .i64 0) (.t 14) (.t 14)⟩, [4]),
    (⟨(some 16), none, .bsl (.nsl 1) 1 [(0, (.t 15))]⟩, [4, 5]),
    (⟨(some 17), none, .bld [.nsl 1, .nsl 1, .nsl 1] [(0, 1, (.t 11)), (1, 1, (.t 13)), (2, 1, (.t 16))]⟩, [0, 1, 2, 3, 4, 5, 6]),
    (⟨(some 18), none, .box (.t 17)⟩, [0, 1, 2, 3, 4, 5, 6, 7]),
    (⟨(some 2), none, .mov (.t 18)⟩, [0, 1, 2, 3, 4, 5, 6, 7, 8]),
    (⟨(some 3), none, .mov (.c (.int .i64 0))⟩, [0, 1, 2, 3, 4, 5, 6, 7, 8, 9])] (some [2, 3]))
   (.ret)))
def F_ref05_New : F := ⟨i_ref05_New, [(2, none), (3, none)], true⟩
/-- stratagem/stratagemlaw05.do -/
def i_law05_do : IR := .seq (.rg [⟨(some 3), none, .box (.t 1)⟩,
    ⟨(some 4), none, .mov (.c (.int .i64 0))⟩,
    ⟨(some 5), none, .mov (.c (.int .i64 0))⟩] (some [0, 3]))
   (.seq (.seq (.rg [⟨(some 6), none, .fad 0 (.t 3)⟩,
    ⟨(some 7), none, .ld false 1 (.t 6)⟩] (some [0, 3, 7]))
   (.blk 0 (.seq (.rg [⟨(some 9), none, .bin .eql (.t 7) (.c (.int .i64 0))⟩,
    ⟨(some 8), none, .mov (.t 9)⟩] (some [0, 3, 7, 8]))
   (.cond (.t 8) (.seq (.rg [⟨(some 10), none, .mov (.t 0)⟩,
    ⟨(some 11), none, .fad 1 (.t 3)⟩,
    ⟨(some 12), none, .ld false 1 (.t 11)⟩,
    ⟨(some 13), none, .fad 2 (.t 3)⟩,
    ⟨(some 14), none, .ld false 1 (.t 13)⟩,
    ⟨(some 15), none, .call n_trail_Trail_int_Set [(.t 10), (.t 12), (.t 14)]⟩,
    ⟨(some 4), none, .mov (.t 15)⟩,
    ⟨(some 5), none, .mov (.c (.int .i64 0))⟩] (some [4, 5]))
   (.ret)) (.seq (.rg [⟨(some 17), none, .bin .eql (.t 7) (.c (.int .i64 1))⟩,
    ⟨(some 16), none, .mov (.t 17)⟩] (some [0, 7, 16]))
   (.cond (.t 16) (.seq (.rg [⟨(some 18), none, .mov (.t 0)⟩,
    ⟨(some 19), none, .call n_trail_Trail_int_Save [(.t 18)]⟩,
    ⟨(some 4), none, .mov (.c (.int .i64 0))⟩,
    ⟨(some 5), none, .mov (.t 19)⟩] (some [4, 5]))
   (.ret)) (.seq (.rg [⟨(some 21), none, .bin .eql (.t 7) (.c (.int .i64 2))⟩,
    ⟨(some 20), none, .mov (.t 21)⟩] (some [0, 20]))
   (.cond (.t 20) (.seq (.rg [⟨(some 22), none, .mov (.t 0)⟩,
    ⟨(some 23), none, .call n_trail_Trail_int_Undo [(.t 22)]⟩,
    ⟨(some 4), none, .mov (.t 23)⟩,
    ⟨(some 5), none, .mov (.c (.int .i64 0))⟩] (some [4, 5]))
   (.ret)) (.skip)))))))))
   (.seq (.rg [⟨(some 4), none, .mov (.c (.int .i64 0))⟩,
    ⟨(some 5), none, .mov (.c (.int .i64 0))⟩] (some [4, 5]))
   (.ret)))
def F_law05_do : F := ⟨i_law05_do, [(4, none), (5, none)], true⟩
/-- (*stratagem/stratagemref05.Trail).Set -/
def i_ref05_Trail_Set : IR := .seq (.rg [⟨(some 6), none, .mov (.c (.int .i64 0))⟩] (some [0, 1, 2]))
   (.seq (.seq (.rg [⟨(some 7), none, .mov (.t 1)⟩,
    ⟨(some 8), none, .bin .lss (.t 7) (.c (.int .i64 0))⟩,
    ⟨(some 9), none, .mov (.t 8)⟩,
    ⟨(some 10), (some (9, false)), .mov (.t 1)⟩,
    ⟨(some 11), (some (9, false)), .mov (.t 0)⟩,
    ⟨(some 12), (some (9, false)), .nck (.t 11)⟩,
    ⟨(some 13), (some (9, false)), .fad 0 (.t 12)⟩,
    ⟨(some 14), (some (9, false)), .ld false 1 (.t 13)⟩,
    ⟨(some 15), (some (9, false)), .len (.t 14)⟩,
    ⟨(some 16), (some (9, false)), .bin .geq (.t 10) (.t 15)⟩,
    ⟨(some 17), none, .pick (.t 9) (.c (.bool true)) (.t 16)⟩] (some [0, 1, 2, 17]))
   (.cond (.t 17) (.seq (.rg [⟨(some 6), none, .mov (.c (.int .i64 1))⟩] (some [6]))
   (.ret)) (.skip)))
   (.seq (.rg [⟨(some 18), none, .mov (.t 0)⟩,
    ⟨(some 19), none, .mov (.t 1)⟩,
    ⟨(some 20), none, .mov (.t 2)⟩,
    ⟨(some 21), none, .call n_ref05_Trail_Put [(.t 18), (.t 19), (.t 20)]⟩] (some []))
   (.seq (.rg [⟨(some 6), none, .mov (.c (.int .i64 0))⟩] (some [6]))
   (.ret))))
def F_ref05_Trail_Set : F := ⟨i_ref05_Trail_Set, [(6, none)], true⟩
/-- (*stratagem/stratagemref05.Trail).Save -/
def i_ref05_Trail_Save : IR := .seq (.rg [⟨(some 2), none, .mov (.c (.int .i64 0))⟩] (some [0]))
   (.seq (.dr [(⟨(some 3), none, .mov (.t 0)⟩, []),
    (⟨(some 4), none, .bsl (.nsl 1) 0 []⟩, []),
    (⟨(some 5), none, .mov (.t 0)⟩, []),
    (⟨(some 6), none, .nck (.t 5)⟩, [2]),
    (⟨(some 7), none, .fad 2 (.t 6)⟩, [2, 3]),
    (⟨(some 8), none, .ld false 1 (.t 7)⟩, [2, 3, 4]),
    (⟨(some 9), none, .app 1 24 (.t 4) (.t 8)⟩, [1, 2, 3, 4, 5]),
    (⟨(some 10), none, .bsl (.int .i64 0) 0 []⟩, []),
    (⟨(some 11), none, .mov (.t 0)⟩, []),
    (⟨(some 12), none, .nck (.t 11)⟩, [8]),
    (⟨(some 13), none, .fad 0 (.t 12)⟩, [8, 9]),
    (⟨(some 14), none, .ld false 1 (.t 13)⟩, [8, 9, 10]),
    (⟨(some 15), none, .app 1 8 (.t 10) (.t 14)⟩, [1, 2, 3, 4, 5, 6, 7, 8, 9, 10, 11]),
    (⟨(some 16), none, .bsl (.nsl 1) 1 [(0, (.t 15))]⟩, [1, 2, 3, 4, 5, 6, 7, 8, 9, 10, 11, 12]),
    (⟨(some 17), none, .app 1 24 (.t 9) (.t 16)⟩, [1, 2, 3, 4, 5, 6, 7, 8, 9, 10, 11, 12, 13]),
    (⟨(some 18), none, .nck (.t 3)⟩, [0, 1, 2, 3, 4, 5, 6, 7, 8, 9, 10, 11, 12, 13, 14]),
    (⟨(some 19), none, .fad 2 (.t 18)⟩, [0, 1, 2, 3, 4, 5, 6, 7, 8, 9, 10, 11, 12, 13, 14, 15]),
    (⟨none, none, .st 1 (.t 19) (.t 17)⟩, [0, 1, 2, 3, 4, 5, 6, 7, 8, 9, 10, 11, 12, 13, 14, 15, 16])] (some [0]))
   (.seq (.rg [⟨(some 20), none, .mov (.t 0)⟩,
    ⟨(some 21), none, .nck (.t 20)⟩,
    ⟨(some 22), none, .fad 2 (.t 21)⟩,
    ⟨(some 23), none, .ld false 1 (.t 22)⟩,
    ⟨(some 24), none, .len (.t 23)⟩,
    ⟨(some 25), none, .bin .sub (.t 24) (.c (.int .i64 1))⟩,
    ⟨(some 2), none, .mov (.t 25)⟩] (some [2]))
   (.ret)))
def F_ref05_Trail_Save : F := ⟨i_ref05_Trail_Save, [(2, none)], true⟩
/-- (*stratagem/stratagemref05.Trail).Undo -/
def b_ref05_Trail_Undo_0 : IR := .seq (.seq (.rg [⟨(some 13), none, .mov (.t 4)⟩,
    ⟨(some 14), none, .mov (.t 0)⟩,
    ⟨(some 15), none, .nck (.t 14)⟩,
    ⟨(some 16), none, .fad 0 (.t 15)⟩,
    ⟨(some 17), none, .ld false 1 (.t 16)⟩,
    ⟨(some 18), none, .len (.t 17)⟩,
    ⟨(some 19), none, .bin .lss (.t 13) (.t 18)⟩] (some [0, 3, 4, 19]))
   (.cond (.t 19) (.skip) (.ext 0)))
   (.seq (.blk 1 (.rg [⟨(some 22), none, .mov (.t 0)⟩,
    ⟨(some 23), none, .mov (.t 4)⟩,
    ⟨(some 24), none, .mov (.t 0)⟩,
    ⟨(some 25), none, .nck (.t 24)⟩,
    ⟨(some 26), none, .fad 2 (.t 25)⟩,
    ⟨(some 27), none, .ld false 1 (.t 26)⟩,
    ⟨(some 28), none, .mov (.t 3)⟩,
    ⟨(some 29), none, .iad 1 (.t 27) (.t 28)⟩,
    ⟨(some 30), none, .ld false 1 (.t 29)⟩,
    ⟨(some 31), none, .mov (.t 4)⟩,
    ⟨(some 32), none, .iad 1 (.t 30) (.t 31)⟩,
    ⟨(some 33), none, .ld false 1 (.t 32)⟩,
    ⟨(some 34), none, .call n_ref05_Trail_Put [(.t 22), (.t 23), (.t 33)]⟩] (some [0, 3, 4])))
   (.rg [⟨(some 20), none, .mov (.t 4)⟩,
    ⟨(some 21), none, .bin .add (.t 20) (.c (.int .i64 1))⟩,
    ⟨(some 4), none, .mov (.t 21)⟩] (some [0, 3, 4])))
def i_ref05_Trail_Undo_l0 : IR := .loop b_ref05_Trail_Undo_0
theorem r_ref05_Trail_Undo_0 {C : Cx} {Y : Yl} {fr : Fr} {h : List Ob} : evw C Y i_ref05_Trail_Undo_l0 fr h = nxt (evw C Y b_ref05_Trail_Undo_0 fr h) fun fr h => evw C Y i_ref05_Trail_Undo_l0 fr h := w_loop
def i_ref05_Trail_Undo : IR := .seq (.rg [⟨(some 2), none, .mov (.c (.int .i64 0))⟩] (some [0]))
   (.seq (.rg [⟨(some 5), none, .mov (.t 0)⟩,
    ⟨(some 6), none, .nck (.t 5)⟩,
    ⟨(some 7), none, .fad 2 (.t 6)⟩,
    ⟨(some 8), none, .ld false 1 (.t 7)⟩,
    ⟨(some 9), none, .len (.t 8)⟩,
    ⟨(some 10), none, .bin .sub (.t 9) (.c (.int .i64 1))⟩,
    ⟨(some 3), none, .mov (.t 10)⟩] (some [0, 3]))
   (.seq (.seq (.rg [⟨(some 11), none, .mov (.t 3)⟩,
    ⟨(some 12), none, .bin .eql (.t 11) (.c (.int .i64 0))⟩] (some [0, 3, 12]))
   (.cond (.t 12) (.seq (.rg [⟨(some 2), none, .mov (.c (.int .i64 9))⟩] (some [2]))
   (.ret)) (.skip)))
   (.seq (.seq (.rg [⟨(some 4), none, .mov (.c (.int .i64 0))⟩] (some [0, 3, 4]))
   (.blk 0 (i_ref05_Trail_Undo_l0)))
   (.seq (.rg [⟨(some 35), none, .mov (.t 0)⟩,
    ⟨(some 36), none, .mov (.t 0)⟩,
    ⟨(some 37), none, .nck (.t 36)⟩,
    ⟨(some 38), none, .fad 2 (.t 37)⟩,
    ⟨(some 39), none, .ld false 1 (.t 38)⟩,
    ⟨(some 40), none, .mov (.t 3)⟩,
    ⟨(some 41), none, .sll 1 (.t 39) none (some (.t 40)) none⟩,
    ⟨(some 42), none, .nck (.t 35)⟩,
    ⟨(some 43), none, .fad 2 (.t 42)⟩,
    ⟨none, none, .st 1 (.t 43) (.t 41)⟩] (some []))
   (.seq (.rg [⟨(some 2), none, .mov (.c (.int .i64 0))⟩] (some [2]))
   (.ret))))))
def F_ref05_Trail_Undo : F := ⟨i_ref05_Trail_Undo, [(2, none)], true⟩
/-- (*stratagem/trail.Trail[int]).Marks -/
def i_trail_Trail_int_Marks : IR := .seq (.rg [⟨(some 2), none, .mov (.c (.int .i64 0))⟩] (some [0]))
   (.seq (.rg [⟨(some 3), none, .mov (.t 0)⟩,
    ⟨(some 4), none, .nck (.t 3)⟩,
    ⟨(some 5), none, .fad 2 (.t 4)⟩,
    ⟨(some 6), none, .ld false 1 (.t 5)⟩,
    ⟨(some 7), none, .len (.t 6)⟩,
    ⟨(some 8), none, .bin .sub (.t 7) (.c (.int .i64 1))⟩,
    ⟨(some 2), none, .mov (.t 8)⟩] (some [2]))
   (.ret))
def F_trail_Trail_int_Marks : F := ⟨i_trail_Trail_int_Marks, [(2, none)], true⟩
/-- (*stratagem/trail.Trail[int]).Len -/
def i_trail_Trail_int_Len : IR := .seq (.rg [⟨(some 2), none, .mov (.c (.int .i64 0))⟩] (some [0]))
   (.seq (.rg [⟨(some 3), none, .mov (.t 0)⟩,
    ⟨(some 4), none, .nck (.t 3)⟩,
    ⟨(some 5), none, .fad 0 (.t 4)⟩,
    ⟨(some 6), none, .ld false 1 (.t 5)⟩,
    ⟨(some 7), none, .len (.t 6)⟩,
    ⟨(some 2), none, .mov (.t 7)⟩] (some [2]))
   (.ret))
def F_trail_Trail_int_Len : F := ⟨i_trail_Trail_int_Len, [(2, none)], true⟩
/-- stratagem/stratagemref02.Same -/
def b_ref02_Same_0 : IR := .seq (.seq (.rg [⟨(some 11), none, .mov (.t 5)⟩,
    ⟨(some 12), none, .mov (.t 0)⟩,
    ⟨(some 13), none, .len (.t 12)⟩,
    ⟨(some 14), none, .bin .lss (.t 11) (.t 13)⟩] (some [0, 1, 5, 14]))
   (.cond (.t 14) (.skip) (.ext 0)))
   (.seq (.blk 1 (.seq (.dq [(⟨(some 17), none, .mov (.t 0)⟩, []),
    (⟨(some 18), none, .mov (.t 5)⟩, []),
    (⟨(some 19), none, .iad 1 (.t 17) (.t 18)⟩, [0, 1]),
    (⟨(some 20), none, .ld false 1 (.t 19)⟩, [0, 1, 2]),
    (⟨(some 21), none, .mov (.t 1)⟩, []),
    (⟨(some 22), none, .mov (.t 5)⟩, []),
    (⟨(some 23), none, .iad 1 (.t 21) (.t 22)⟩, [4, 5]),
    (⟨(some 24), none, .ld false 1 (.t 23)⟩, [4, 5, 6]),
    (⟨(some 25), none, .bin .neq (.t 20) (.t 24)⟩, [0, 1, 2, 3, 4, 5, 6, 7])] (some [0, 1, 5, 25]))
   (.cond (.t 25) (.seq (.rg [⟨(some 4), none, .mov (.c (.bool false))⟩] (some [4]))
   (.ret)) (.skip))))
   (.rg [⟨(some 15), none, .mov (.t 5)⟩,
    ⟨(some 16), none, .bin .add (.t 15) (.c (.int .i64 1))⟩,
    ⟨(some 5), none, .mov (.t 16)⟩] (some [0, 1, 5])))
def i_ref02_Same_l0 : IR := .loop b_ref02_Same_0
theorem r_ref02_Same_0 {C : Cx} {Y : Yl} {fr : Fr} {h : List Ob} : evw C Y i_ref02_Same_l0 fr h = nxt (evw C Y b_ref02_Same_0 fr h) fun fr h => evw C Y i_ref02_Same_l0 fr h := w_loop
def i_ref02_Same : IR := .seq (.rg [⟨(some 4), none, .mov (.c (.bool false))⟩] (some [0, 1]))
   (.seq (.seq (.rg [⟨(some 6), none, .mov (.t 0)⟩,
    ⟨(some 7), none, .len (.t 6)⟩,
    ⟨(some 8), none, .mov (.t 1)⟩,
    ⟨(some 9), none, .len (.t 8)⟩,
    ⟨(some 10), none, .bin .neq (.t 7) (.t 9)⟩] (some [0, 1, 10]))
   (.cond (.t 10) (.seq (.rg [⟨(some 4), none, .mov (.c (.bool false))⟩] (some [4]))
   (.ret)) (.skip)))
   (.seq (.seq (.rg [⟨(some 5), none, .mov (.c (.int .i64 0))⟩] (some [0, 1, 5]))
   (.blk 0 (i_ref02_Same_l0)))
   (.seq (.rg [⟨(some 4), none, .mov (.c (.bool true))⟩] (some [4]))
   (.ret))))
def F_ref02_Same : F := ⟨i_ref02_Same, [(4, none)], false⟩
/-- (*stratagem/trail.Trail[int]).Changed -/
def x_trail_Trail_int_Changed_0 : IR := .seq (.rg [⟨(some 14), none, .mov (.t 0)⟩,
    ⟨(some 15), none, .nck (.t 14)⟩,
    ⟨(some 16), none, .fad 0 (.t 15)⟩,
    ⟨(some 17), none, .ld false 1 (.t 16)⟩,
    ⟨(some 18), none, .mov (.t 4)⟩,
    ⟨(some 19), none, .iad 1 (.t 17) (.t 18)⟩,
    ⟨(some 20), none, .ld false 1 (.t 19)⟩,
    ⟨(some 21), none, .mov (.t 5)⟩,
    ⟨(some 22), none, .bin .neq (.t 20) (.t 21)⟩] (some [0, 3, 4, 8, 22]))
   (.cond (.t 22) (.rg [⟨(some 23), none, .mov (.t 3)⟩,
    ⟨(some 24), none, .mov (.t 4)⟩,
    ⟨(some 25), none, .bsf (.int .i64 0) 1 [(0, (.t 24))]⟩,
    ⟨(some 26), none, .app 1 8 (.t 23) (.t 25)⟩,
    ⟨(some 3), none, .mov (.t 26)⟩] (some [0, 3, 8])) (.skip))
def X_trail_Trail_int_Changed_0 : Rm := { pre := [⟨(some 6), none, .mov (.t 0)⟩, ⟨(some 7), none, .call n_trail_Trail_int_last [(.t 6)]⟩], m := (.t 7), it := 8, kA := some [0, 3, 8], b0 := 0, nx := 9, bl := [⟨(some 10), none, .ext (.t 9) 0⟩], kB := some [0, 3, 8, 10], ok := (.t 10), b1 := 1, en := 11, dl := [⟨(some 12), none, .ext (.t 11) 0⟩, ⟨(some 13), none, .ext (.t 11) 1⟩, ⟨(some 4), none, .mov (.t 12)⟩, ⟨(some 5), none, .mov (.t 13)⟩], kD := some [0, 3, 4, 5, 8], body := x_trail_Trail_int_Changed_0 }
def q_trail_Trail_int_Changed : RN := .seq (.det (.rg [⟨(some 2), none, .mov (.c (.nsl 1))⟩] (some [0])))
   (.seq (.det (.rg [⟨(some 3), none, .mov (.c (.nsl 1))⟩] (some [0, 3])))
   (.seq (.rm X_trail_Trail_int_Changed_0)
   (.det (.seq (.rg [⟨(some 27), none, .mov (.t 3)⟩,
    ⟨(some 28), none, .call n_slices_Sort_sint_int [(.t 27)]⟩] (some [3]))
   (.seq (.rg [⟨(some 29), none, .mov (.t 3)⟩,
    ⟨(some 2), none, .mov (.t 29)⟩] (some [2]))
   (.ret))))))
def F_trail_Trail_int_Changed : FN := ⟨q_trail_Trail_int_Changed, [(2, none)]⟩
/-- (*stratagem/stratagemref05.Trail).Changed -/
def b_ref05_Trail_Changed_0 : IR := .seq (.seq (.rg [⟨(some 19), none, .mov (.t 5)⟩,
    ⟨(some 20), none, .mov (.t 0)⟩,
    ⟨(some 21), none, .nck (.t 20)⟩,
    ⟨(some 22), none, .fad 0 (.t 21)⟩,
    ⟨(some 23), none, .ld false 1 (.t 22)⟩,
    ⟨(some 24), none, .len (.t 23)⟩,
    ⟨(some 25), none, .bin .lss (.t 19) (.t 24)⟩] (some [0, 3, 4, 5, 25]))
   (.cond (.t 25) (.skip) (.ext 0)))
   (.seq (.blk 1 (.seq (.dq [(⟨(some 28), none, .mov (.t 0)⟩, []),
    (⟨(some 29), none, .nck (.t 28)⟩, [0]),
    (⟨(some 30), none, .fad 0 (.t 29)⟩, [0, 1]),
    (⟨(some 31), none, .ld false 1 (.t 30)⟩, [0, 1, 2]),
    (⟨(some 32), none, .mov (.t 5)⟩, []),
    (⟨(some 33), none, .iad 1 (.t 31) (.t 32)⟩, [0, 1, 2, 3, 4]),
    (⟨(some 34), none, .ld false 1 (.t 33)⟩, [0, 1, 2, 3, 4, 5]),
    (⟨(some 35), none, .mov (.t 4)⟩, []),
    (⟨(some 36), none, .mov (.t 5)⟩, []),
    (⟨(some 37), none, .iad 1 (.t 35) (.t 36)⟩, [7, 8]),
    (⟨(some 38), none, .ld false 1 (.t 37)⟩, [7, 8, 9]),
    (⟨(some 39), none, .bin .neq (.t 34) (.t 38)⟩, [0, 1, 2, 3, 4, 5, 6, 7, 8, 9, 10])] (some [0, 3, 4, 5, 39]))
   (.cond (.t 39) (.rg [⟨(some 40), none, .mov (.t 3)⟩,
    ⟨(some 41), none, .mov (.t 5)⟩,
    ⟨(some 42), none, .bsf (.int .i64 0) 1 [(0, (.t 41))]⟩,
    ⟨(some 43), none, .app 1 8 (.t 40) (.t 42)⟩,
    ⟨(some 3), none, .mov (.t 43)⟩] (some [0, 3, 4, 5])) (.skip))))
   (.rg [⟨(some 26), none, .mov (.t 5)⟩,
    ⟨(some 27), none, .bin .add (.t 26) (.c (.int .i64 1))⟩,
    ⟨(some 5), none, .mov (.t 27)⟩] (some [0, 3, 4, 5])))
def i_ref05_Trail_Changed_l0 : IR := .loop b_ref05_Trail_Changed_0
theorem r_ref05_Trail_Changed_0 {C : Cx} {Y : Yl} {fr : Fr} {h : List Ob} : evw C Y i_ref05_Trail_Changed_l0 fr h = nxt (evw C Y b_ref05_Trail_Changed_0 fr h) fun fr h => evw C Y i_ref05_Trail_Changed_l0 fr h := w_loop
def i_ref05_Trail_Changed : IR := .seq (.rg [⟨(some 2), none, .mov (.c (.nsl 1))⟩] (some [0]))
   (.seq (.rg [⟨(some 6), none, .bsl (.int .i64 0) 0 []⟩,
    ⟨(some 3), none, .mov (.t 6)⟩] (some [0, 3]))
   (.seq (.dq [(⟨(some 7), none, .mov (.t 0)⟩, []),
    (⟨(some 8), none, .nck (.t 7)⟩, [0]),
    (⟨(some 9), none, .fad 2 (.t 8)⟩, [0, 1]),
    (⟨(some 10), none, .ld false 1 (.t 9)⟩, [0, 1, 2]),
    (⟨(some 11), none, .mov (.t 0)⟩, []),
    (⟨(some 12), none, .nck (.t 11)⟩, [4]),
    (⟨(some 13), none, .fad 2 (.t 12)⟩, [4, 5]),
    (⟨(some 14), none, .ld false 1 (.t 13)⟩, [4, 5, 6]),
    (⟨(some 15), none, .len (.t 14)⟩, [4, 5, 6, 7]),
    (⟨(some 16), none, .bin .sub (.t 15) (.c (.int .i64 1))⟩, [4, 5, 6, 7, 8]),
    (⟨(some 17), none, .iad 1 (.t 10) (.t 16)⟩, [0, 1, 2, 3, 4, 5, 6, 7, 8, 9]),
    (⟨(some 18), none, .ld false 1 (.t 17)⟩, [0, 1, 2, 3, 4, 5, 6, 7, 8, 9, 10]),
    (⟨(some 4), none, .mov (.t 18)⟩, [0, 1, 2, 3, 4, 5, 6, 7, 8, 9, 10, 11])] (some [0, 3, 4]))
   (.seq (.seq (.rg [⟨(some 5), none, .mov (.c (.int .i64 0))⟩] (some [0, 3, 4, 5]))
   (.blk 0 (i_ref05_Trail_Changed_l0)))
   (.seq (.rg [⟨(some 44), none, .mov (.t 3)⟩,
    ⟨(some 2), none, .mov (.t 44)⟩] (some [2]))
   (.ret)))))
def F_ref05_Trail_Changed : F := ⟨i_ref05_Trail_Changed, [(2, none)], true⟩
/-- (*stratagem/trail.Trail[int]).Get -/
def i_trail_Trail_int_Get : IR := .seq (.rg [⟨(some 4), none, .mov (.c (.int .i64 0))⟩,
    ⟨(some 5), none, .mov (.c (.bool false))⟩] (some [0, 1]))
   (.seq (.seq (.rg [⟨(some 7), none, .mov (.t 0)⟩,
    ⟨(some 8), none, .mov (.t 1)⟩,
    ⟨(some 9), none, .call n_trail_Trail_int_there [(.t 7), (.t 8)]⟩,
    ⟨(some 10), none, .un .not (.t 9)⟩] (some [0, 1, 10]))
   (.cond (.t 10) (.seq (.rg [⟨(some 6), none, .mov (.c (.int .i64 0))⟩] (some [6]))
   (.seq (.rg [⟨(some 11), none, .mov (.t 6)⟩,
    ⟨(some 4), none, .mov (.t 11)⟩,
    ⟨(some 5), none, .mov (.c (.bool false))⟩] (some [4, 5]))
   (.ret))) (.skip)))
   (.seq (.rg [⟨(some 12), none, .mov (.t 0)⟩,
    ⟨(some 13), none, .nck (.t 12)⟩,
    ⟨(some 14), none, .fad 0 (.t 13)⟩,
    ⟨(some 15), none, .ld false 1 (.t 14)⟩,
    ⟨(some 16), none, .mov (.t 1)⟩,
    ⟨(some 17), none, .iad 1 (.t 15) (.t 16)⟩,
    ⟨(some 18), none, .ld false 1 (.t 17)⟩,
    ⟨(some 4), none, .mov (.t 18)⟩,
    ⟨(some 5), none, .mov (.c (.bool true))⟩] (some [4, 5]))
   (.ret)))
def F_trail_Trail_int_Get : F := ⟨i_trail_Trail_int_Get, [(4, none), (5, none)], true⟩
/-- (*stratagem/trail.Trail[int]).Stamp -/
def i_trail_Trail_int_Stamp : IR := .seq (.rg [⟨(some 4), none, .mov (.c (.int .i64 0))⟩] (some [0, 1]))
   (.seq (.seq (.rg [⟨(some 5), none, .mov (.t 0)⟩,
    ⟨(some 6), none, .mov (.t 1)⟩,
    ⟨(some 7), none, .call n_trail_Trail_int_there [(.t 5), (.t 6)]⟩,
    ⟨(some 8), none, .un .not (.t 7)⟩] (some [0, 1, 8]))
   (.cond (.t 8) (.seq (.rg [⟨(some 4), none, .mov (.c (.int .i64 0))⟩] (some [4]))
   (.ret)) (.skip)))
   (.seq (.rg [⟨(some 9), none, .mov (.t 0)⟩,
    ⟨(some 10), none, .nck (.t 9)⟩,
    ⟨(some 11), none, .fad 1 (.t 10)⟩,
    ⟨(some 12), none, .ld false 1 (.t 11)⟩,
    ⟨(some 13), none, .mov (.t 1)⟩,
    ⟨(some 14), none, .iad 1 (.t 12) (.t 13)⟩,
    ⟨(some 15), none, .ld false 1 (.t 14)⟩,
    ⟨(some 4), none, .mov (.t 15)⟩] (some [4]))
   (.ret)))
def F_trail_Trail_int_Stamp : F := ⟨i_trail_Trail_int_Stamp, [(4, none)], true⟩
/-- (*stratagem/trail.Trail[int]).Save -/
def i_trail_Trail_int_Save : IR := .seq (.rg [⟨(some 2), none, .mov (.c (.int .i64 0))⟩] (some [0]))
   (.seq (.rg [⟨(some 3), none, .mov (.t 0)⟩,
    ⟨(some 4), none, .mov (.t 0)⟩,
    ⟨(some 5), none, .nck (.t 4)⟩,
    ⟨(some 6), none, .fad 2 (.t 5)⟩,
    ⟨(some 7), none, .ld false 1 (.t 6)⟩,
    ⟨(some 8), none, .op .mkm []⟩,
    ⟨(some 9), none, .bsl (.nmp) 1 [(0, (.t 8))]⟩,
    ⟨(some 10), none, .app 1 8 (.t 7) (.t 9)⟩,
    ⟨(some 11), none, .nck (.t 3)⟩,
    ⟨(some 12), none, .fad 2 (.t 11)⟩,
    ⟨none, none, .st 1 (.t 12) (.t 10)⟩] (some [0]))
   (.seq (.rg [⟨(some 13), none, .mov (.t 0)⟩,
    ⟨(some 14), none, .call n_trail_Trail_int_Marks [(.t 13)]⟩,
    ⟨(some 2), none, .mov (.t 14)⟩] (some [2]))
   (.ret)))
def F_trail_Trail_int_Save : F := ⟨i_trail_Trail_int_Save, [(2, none)], true⟩
/-- (*stratagem/trail.Trail[int]).Undo -/
def x_trail_Trail_int_Undo_0 : IR := .rg [⟨(some 18), none, .mov (.t 0)⟩,
    ⟨(some 19), none, .mov (.t 4)⟩,
    ⟨(some 20), none, .mov (.t 5)⟩,
    ⟨(some 21), none, .call n_trail_Trail_int_put [(.t 18), (.t 19), (.t 20)]⟩] (some [0, 3, 12])
def X_trail_Trail_int_Undo_0 : Rm := { pre := [⟨(some 11), none, .mov (.t 3)⟩], m := (.t 11), it := 12, kA := some [0, 3, 12], b0 := 0, nx := 13, bl := [⟨(some 14), none, .ext (.t 13) 0⟩], kB := some [0, 3, 12, 14], ok := (.t 14), b1 := 1, en := 15, dl := [⟨(some 16), none, .ext (.t 15) 0⟩, ⟨(some 17), none, .ext (.t 15) 1⟩, ⟨(some 4), none, .mov (.t 16)⟩, ⟨(some 5), none, .mov (.t 17)⟩], kD := some [0, 3, 4, 5, 12], body := x_trail_Trail_int_Undo_0 }
def q_trail_Trail_int_Undo : RN := .seq (.det (.rg [⟨(some 2), none, .mov (.c (.int .i64 0))⟩] (some [0])))
   (.seq (.det (.seq (.rg [⟨(some 6), none, .mov (.t 0)⟩,
    ⟨(some 7), none, .call n_trail_Trail_int_Marks [(.t 6)]⟩,
    ⟨(some 8), none, .bin .eql (.t 7) (.c (.int .i64 0))⟩] (some [0, 8]))
   (.cond (.t 8) (.seq (.rg [⟨(some 2), none, .mov (.c (.int .i64 9))⟩] (some [2]))
   (.ret)) (.skip))))
   (.seq (.det (.rg [⟨(some 9), none, .mov (.t 0)⟩,
    ⟨(some 10), none, .call n_trail_Trail_int_last [(.t 9)]⟩,
    ⟨(some 3), none, .mov (.t 10)⟩] (some [0, 3])))
   (.seq (.rm X_trail_Trail_int_Undo_0)
   (.det (.seq (.rg [⟨(some 22), none, .mov (.t 3)⟩,
    ⟨none, none, .op .mcl [(.t 22)]⟩] (some [0]))
   (.seq (.dq [(⟨(some 23), none, .mov (.t 0)⟩, []),
    (⟨(some 24), none, .mov (.t 0)⟩, []),
    (⟨(some 25), none, .nck (.t 24)⟩, [1]),
    (⟨(some 26), none, .fad 2 (.t 25)⟩, [1, 2]),
    (⟨(some 27), none, .ld false 1 (.t 26)⟩, [1, 2, 3]),
    (⟨(some 28), none, .mov (.t 0)⟩, []),
    (⟨(some 29), none, .nck (.t 28)⟩, [5]),
    (⟨(some 30), none, .fad 2 (.t 29)⟩, [5, 6]),
    (⟨(some 31), none, .ld false 1 (.t 30)⟩, [5, 6, 7]),
    (⟨(some 32), none, .len (.t 31)⟩, [5, 6, 7, 8]),
    (⟨(some 33), none, .bin .sub (.t 32) (.c (.int .i64 1))⟩, [5, 6, 7, 8, 9]),
    (⟨(some 34), none, .sll 1 (.t 27) none (some (.t 33)) none⟩, [1, 2, 3, 4, 5, 6, 7, 8, 9, 10]),
    (⟨(some 35), none, .nck (.t 23)⟩, [0, 1, 2, 3, 4, 5, 6, 7, 8, 9, 10, 11]),
    (⟨(some 36), none, .fad 2 (.t 35)⟩, [0, 1, 2, 3, 4, 5, 6, 7, 8, 9, 10, 11, 12]),
    (⟨none, none, .st 1 (.t 36) (.t 34)⟩, [0, 1, 2, 3, 4, 5, 6, 7, 8, 9, 10, 11, 12, 13])] (some [0]))
   (.seq (.rg [⟨(some 37), none, .mov (.t 0)⟩,
    ⟨(some 38), none, .call n_trail_Trail_int_carry [(.t 37)]⟩] (some []))
   (.seq (.rg [⟨(some 2), none, .mov (.c (.int .i64 0))⟩] (some [2]))
   (.ret)))))))))
def F_trail_Trail_int_Undo : FN := ⟨q_trail_Trail_int_Undo, [(2, none)]⟩
/-- stratagem/trail.New[string] -/
def i_trail_New_string : IR := .seq (.rg [⟨(some 2), none, .mov (.c (.nilp))⟩,
    ⟨(some 3), none, .mov (.c (.int .i64 0))⟩] (some [0]))
   (.seq (.seq (.rg [⟨(some 4), none, .mov (.t 0)⟩,
    ⟨(some 5), none, .bin .lss (.t 4) (.c (.int .i64 0))⟩,
    ⟨(some 6), none, .mov (.t 5)⟩,
    ⟨(some 7), (some (6, false)), .mov (.t 0)⟩,
    ⟨(some 8), (some (6, false)), .bin .gtr (.t 7) (.c (.int .i64 1000))⟩,
    ⟨(some 9), none, .pick (.t 6) (.c (.bool true)) (.t 8)⟩] (some [0, 9]))
   (.cond (.t 9) (.seq (.rg [⟨(some 2), none, .mov (.c (.nilp))⟩,
    ⟨(some 3), none, .mov (.c (.int .i64 1))⟩] (some [2, 3]))
   (.ret)) (.skip)))
   (.seq (.dr [(⟨(some 10), none, .mov (.t 0)⟩, []),
    (⟨(some 11), none, .mks 16 (.str []) (.t 10) (.t 10)⟩, [0]),
    (⟨(some 12), none, .mov (.t 0)⟩, []),
    (⟨(some 13), none, .mks 8 (.int .i64 0) (.t 12) (.t 12)⟩, [2]),
    (⟨(some 14), none, .op .mkm []⟩, []),
    (⟨(some 15), none, .bsl (.nmp) 1 [(0, (.t 14))]⟩, [4]),
    (⟨(some 16), none, .bld [.nsl 1, .nsl 1, .nsl 1] [(0, 1, (.t 11)), (1, 1, (.t 13)), (2, 1, (.t 15))]⟩, [0, 1, 2, 3, 4, 5]),
    (⟨(some 17), none, .box (.t 16)⟩, [0, 1, 2, 3, 4, 5, 6]),
    (⟨(some 2), none, .mov (.t 17)⟩, [0, 1, 2, 3, 4, 5, 6, 7]),
    (⟨(some 3), none, .mov (.c (.int .i64 0))⟩, [0, 1, 2, 3, 4, 5, 6, 7, 8])] (some [2, 3]))
   (.ret)))
def F_trail_New_string : F := ⟨i_trail_New_string, [(2, none), (3, none)], true⟩
/-- (*stratagem/trail.Trail[string]).Set -/
def i_trail_Trail_string_Set : IR := .seq (.rg [⟨(some 6), none, .mov (.c (.int .i64 0))⟩] (some [0, 1, 2]))
   (.seq (.seq (.rg [⟨(some 10), none, .mov (.t 0)⟩,
    ⟨(some 11), none, .mov (.t 1)⟩,
    ⟨(some 12), none, .call n_trail_Trail_string_there [(.t 10), (.t 11)]⟩,
    ⟨(some 13), none, .un .not (.t 12)⟩] (some [0, 1, 2, 13]))
   (.cond (.t 13) (.seq (.rg [⟨(some 6), none, .mov (.c (.int .i64 1))⟩] (some [6]))
   (.ret)) (.skip)))
   (.seq (.rg [⟨(some 14), none, .mov (.t 0)⟩,
    ⟨(some 15), none, .call n_trail_Trail_string_last [(.t 14)]⟩,
    ⟨(some 7), none, .mov (.t 15)⟩] (some [0, 1, 2, 7]))
   (.seq (.seq (.rg [⟨(some 17), none, .mov (.t 7)⟩,
    ⟨(some 18), none, .mov (.t 1)⟩,
    ⟨(some 19), none, .op (.lku (some .i64) (.str []) true) [(.t 17), (.t 18)]⟩,
    ⟨(some 16), none, .mov (.t 19)⟩,
    ⟨(some 20), none, .ext (.t 16) 0⟩,
    ⟨(some 21), none, .ext (.t 16) 1⟩,
    ⟨(some 8), none, .mov (.t 20)⟩,
    ⟨(some 9), none, .mov (.t 21)⟩] (some [0, 1, 2, 7, 9]))
   (.seq (.rg [⟨(some 22), none, .mov (.t 9)⟩,
    ⟨(some 23), none, .un .not (.t 22)⟩] (some [0, 1, 2, 7, 23]))
   (.cond (.t 23) (.rg [⟨(some 24), none, .mov (.t 7)⟩,
    ⟨(some 25), none, .mov (.t 1)⟩,
    ⟨(some 26), none, .mov (.t 0)⟩,
    ⟨(some 27), none, .nck (.t 26)⟩,
    ⟨(some 28), none, .fad 0 (.t 27)⟩,
    ⟨(some 29), none, .ld false 1 (.t 28)⟩,
    ⟨(some 30), none, .mov (.t 1)⟩,
    ⟨(some 31), none, .iad 1 (.t 29) (.t 30)⟩,
    ⟨(some 32), none, .ld false 1 (.t 31)⟩,
    ⟨none, none, .op (.mpu (some .i64)) [(.t 24), (.t 25), (.t 32)]⟩] (some [0, 1, 2])) (.skip))))
   (.seq (.rg [⟨(some 33), none, .mov (.t 0)⟩,
    ⟨(some 34), none, .mov (.t 1)⟩,
    ⟨(some 35), none, .mov (.t 2)⟩,
    ⟨(some 36), none, .call n_trail_Trail_string_put [(.t 33), (.t 34), (.t 35)]⟩] (some []))
   (.seq (.rg [⟨(some 6), none, .mov (.c (.int .i64 0))⟩] (some [6]))
   (.ret))))))
def F_trail_Trail_string_Set : F := ⟨i_trail_Trail_string_Set, [(6, none)], true⟩
/-- (*stratagem/trail.Trail[string]).Save -/
def i_trail_Trail_string_Save : IR := .seq (.rg [⟨(some 2), none, .mov (.c (.int .i64 0))⟩] (some [0]))
   (.seq (.rg [⟨(some 3), none, .mov (.t 0)⟩,
    ⟨(some 4), none, .mov (.t 0)⟩,
    ⟨(some 5), none, .nck (.t 4)⟩,
    ⟨(some 6), none, .fad 2 (.t 5)⟩,
    ⟨(some 7), none, .ld false 1 (.t 6)⟩,
    ⟨(some 8), none, .op .mkm []⟩,
    ⟨(some 9), none, .bsl (.nmp) 1 [(0, (.t 8))]⟩,
    ⟨(some 10), none, .app 1 8 (.t 7) (.t 9)⟩,
    ⟨(some 11), none, .nck (.t 3)⟩,
    ⟨(some 12), none, .fad 2 (.t 11)⟩,
    ⟨none, none, .st 1 (.t 12) (.t 10)⟩] (some [0]))
   (.seq (.rg [⟨(some 13), none, .mov (.t 0)⟩,
    ⟨(some 14), none, .call n_trail_Trail_string_Marks [(.t 13)]⟩,
    ⟨(some 2), none, .mov (.t 14)⟩] (some [2]))
   (.ret)))
def F_trail_Trail_string_Save : F := ⟨i_trail_Trail_string_Save, [(2, none)], true⟩
/-- (*stratagem/trail.Trail[string]).Undo -/
def x_trail_Trail_string_Undo_0 : IR := .rg [⟨(some 18), none, .mov (.t 0)⟩,
    ⟨(some 19), none, .mov (.t 4)⟩,
    ⟨(some 20), none, .mov (.t 5)⟩,
    ⟨(some 21), none, .call n_trail_Trail_string_put [(.t 18), (.t 19), (.t 20)]⟩] (some [0, 3, 12])
def X_trail_Trail_string_Undo_0 : Rm := { pre := [⟨(some 11), none, .mov (.t 3)⟩], m := (.t 11), it := 12, kA := some [0, 3, 12], b0 := 0, nx := 13, bl := [⟨(some 14), none, .ext (.t 13) 0⟩], kB := some [0, 3, 12, 14], ok := (.t 14), b1 := 1, en := 15, dl := [⟨(some 16), none, .ext (.t 15) 0⟩, ⟨(some 17), none, .ext (.t 15) 1⟩, ⟨(some 4), none, .mov (.t 16)⟩, ⟨(some 5), none, .mov (.t 17)⟩], kD := some [0, 3, 4, 5, 12], body := x_trail_Trail_string_Undo_0 }
def q_trail_Trail_string_Undo : RN := .seq (.det (.rg [⟨(some 2), none, .mov (.c (.int .i64 0))⟩] (some [0])))
   (.seq (.det (.seq (.rg [⟨(some 6), none, .mov (.t 0)⟩,
    ⟨(some 7), none, .call n_trail_Trail_string_Marks [(.t 6)]⟩,
    ⟨(some 8), none, .bin .eql (.t 7) (.c (.int .i64 0))⟩] (some [0, 8]))
   (.cond (.t 8) (.seq (.rg [⟨(some 2), none, .mov (.c (.int .i64 9))⟩] (some [2]))
   (.ret)) (.skip))))
   (.seq (.det (.rg [⟨(some 9), none, .mov (.t 0)⟩,
    ⟨(some 10), none, .call n_trail_Trail_string_last [(.t 9)]⟩,
    ⟨(some 3), none, .mov (.t 10)⟩] (some [0, 3])))
   (.seq (.rm X_trail_Trail_string_Undo_0)
   (.det (.seq (.rg [⟨(some 22), none, .mov (.t 3)⟩,
    ⟨none, none, .op .mcl [(.t 22)]⟩] (some [0]))
   (.seq (.dq [(⟨(some 23), none, .mov (.t 0)⟩, []),
    (⟨(some 24), none, .mov (.t 0)⟩, []),
    (⟨(some 25), none, .nck (.t 24)⟩, [1]),
    (⟨(some 26), none, .fad 2 (.t 25)⟩, [1, 2]),
    (⟨(some 27), none, .ld false 1 (.t 26)⟩, [1, 2, 3]),
    (⟨(some 28), none, .mov (.t 0)⟩, []),
    (⟨(some 29), none, .nck (.t 28)⟩, [5]),
    (⟨(some 30), none, .fad 2 (.t 29)⟩, [5, 6]),
    (⟨(some 31), none, .ld false 1 (.t 30)⟩, [5, 6, 7]),
    (⟨(some 32), none, .len (.t 31)⟩, [5, 6, 7, 8]),
    (⟨(some 33), none, .bin .sub (.t 32) (.c (.int .i64 1))⟩, [5, 6, 7, 8, 9]),
    (⟨(some 34), none, .sll 1 (.t 27) none (some (.t 33)) none⟩, [1, 2, 3, 4, 5, 6, 7, 8, 9, 10]),
    (⟨(some 35), none, .nck (.t 23)⟩, [0, 1, 2, 3, 4, 5, 6, 7, 8, 9, 10, 11]),
    (⟨(some 36), none, .fad 2 (.t 35)⟩, [0, 1, 2, 3, 4, 5, 6, 7, 8, 9, 10, 11, 12]),
    (⟨none, none, .st 1 (.t 36) (.t 34)⟩, [0, 1, 2, 3, 4, 5, 6, 7, 8, 9, 10, 11, 12, 13])] (some [0]))
   (.seq (.rg [⟨(some 37), none, .mov (.t 0)⟩,
    ⟨(some 38), none, .call n_trail_Trail_string_carry [(.t 37)]⟩] (some []))
   (.seq (.rg [⟨(some 2), none, .mov (.c (.int .i64 0))⟩] (some [2]))
   (.ret)))))))))
def F_trail_Trail_string_Undo : FN := ⟨q_trail_Trail_string_Undo, [(2, none)]⟩
/-- (*stratagem/trail.Trail[string]).Changed -/
def x_trail_Trail_string_Changed_0 : IR := .seq (.rg [⟨(some 14), none, .mov (.t 0)⟩,
    ⟨(some 15), none, .nck (.t 14)⟩,
    ⟨(some 16), none, .fad 0 (.t 15)⟩,
    ⟨(some 17), none, .ld false 1 (.t 16)⟩,
    ⟨(some 18), none, .mov (.t 4)⟩,
    ⟨(some 19), none, .iad 1 (.t 17) (.t 18)⟩,
    ⟨(some 20), none, .ld false 1 (.t 19)⟩,
    ⟨(some 21), none, .mov (.t 5)⟩,
    ⟨(some 22), none, .bin .neq (.t 20) (.t 21)⟩] (some [0, 3, 4, 8, 22]))
   (.cond (.t 22) (.rg [⟨(some 23), none, .mov (.t 3)⟩,
    ⟨(some 24), none, .mov (.t 4)⟩,
    ⟨(some 25), none, .bsf (.int .i64 0) 1 [(0, (.t 24))]⟩,
    ⟨(some 26), none, .app 1 8 (.t 23) (.t 25)⟩,
    ⟨(some 3), none, .mov (.t 26)⟩] (some [0, 3, 8])) (.skip))
def X_trail_Trail_string_Changed_0 : Rm := { pre := [⟨(some 6), none, .mov (.t 0)⟩, ⟨(some 7), none, .call n_trail_Trail_string_last [(.t 6)]⟩], m := (.t 7), it := 8, kA := some [0, 3, 8], b0 := 0, nx := 9, bl := [⟨(some 10), none, .ext (.t 9) 0⟩], kB := some [0, 3, 8, 10], ok := (.t 10), b1 := 1, en := 11, dl := [⟨(some 12), none, .ext (.t 11) 0⟩, ⟨(some 13), none, .ext (.t 11) 1⟩, ⟨(some 4), none, .mov (.t 12)⟩, ⟨(some 5), none, .mov (.t 13)⟩], kD := some [0, 3, 4, 5, 8], body := x_trail_Trail_string_Changed_0 }
def q_trail_Trail_string_Changed : RN := .seq (.det (.rg [⟨(some 2), none, .mov (.c (.nsl 1))⟩] (some [0])))
   (.seq (.det (.rg [⟨(some 3), none, .mov (.c (.nsl 1))⟩] (some [0, 3])))
   (.seq (.rm X_trail_Trail_string_Changed_0)
   (.det (.seq (.rg [⟨(some 27), none, .mov (.t 3)⟩,
    ⟨(some 28), none, .call n_slices_Sort_sint_int [(.t 27)]⟩] (some [3]))
   (.seq (.rg [⟨(some 29), none, .mov (.t 3)⟩,
    ⟨(some 2), none, .mov (.t 29)⟩] (some [2]))
   (.ret))))))
def F_trail_Trail_string_Changed : FN := ⟨q_trail_Trail_string_Changed, [(2, none)]⟩
/-- (*stratagem/trail.Trail[string]).Get -/
def i_trail_Trail_string_Get : IR := .seq (.rg [⟨(some 4), none, .mov (.c (.str []))⟩,
    ⟨(some 5), none, .mov (.c (.bool false))⟩] (some [0, 1]))
   (.seq (.seq (.rg [⟨(some 7), none, .mov (.t 0)⟩,
    ⟨(some 8), none, .mov (.t 1)⟩,
    ⟨(some 9), none, .call n_trail_Trail_string_there [(.t 7), (.t 8)]⟩,
    ⟨(some 10), none, .un .not (.t 9)⟩] (some [0, 1, 10]))
   (.cond (.t 10) (.seq (.rg [⟨(some 6), none, .mov (.c (.str []))⟩] (some [6]))
   (.seq (.rg [⟨(some 11), none, .mov (.t 6)⟩,
    ⟨(some 4), none, .mov (.t 11)⟩,
    ⟨(some 5), none, .mov (.c (.bool false))⟩] (some [4, 5]))
   (.ret))) (.skip)))
   (.seq (.rg [⟨(some 12), none, .mov (.t 0)⟩,
    ⟨(some 13), none, .nck (.t 12)⟩,
    ⟨(some 14), none, .fad 0 (.t 13)⟩,
    ⟨(some 15), none, .ld false 1 (.t 14)⟩,
    ⟨(some 16), none, .mov (.t 1)⟩,
    ⟨(some 17), none, .iad 1 (.t 15) (.t 16)⟩,
    ⟨(some 18), none, .ld false 1 (.t 17)⟩,
    ⟨(some 4), none, .mov (.t 18)⟩,
    ⟨(some 5), none, .mov (.c (.bool true))⟩] (some [4, 5]))
   (.ret)))
def F_trail_Trail_string_Get : F := ⟨i_trail_Trail_string_Get, [(4, none), (5, none)], true⟩
/-- (*stratagem/trail.Trail[string]).Stamp -/
def i_trail_Trail_string_Stamp : IR := .seq (.rg [⟨(some 4), none, .mov (.c (.int .i64 0))⟩] (some [0, 1]))
   (.seq (.seq (.rg [⟨(some 5), none, .mov (.t 0)⟩,
    ⟨(some 6), none, .mov (.t 1)⟩,
    ⟨(some 7), none, .call n_trail_Trail_string_there [(.t 5), (.t 6)]⟩,
    ⟨(some 8), none, .un .not (.t 7)⟩] (some [0, 1, 8]))
   (.cond (.t 8) (.seq (.rg [⟨(some 4), none, .mov (.c (.int .i64 0))⟩] (some [4]))
   (.ret)) (.skip)))
   (.seq (.rg [⟨(some 9), none, .mov (.t 0)⟩,
    ⟨(some 10), none, .nck (.t 9)⟩,
    ⟨(some 11), none, .fad 1 (.t 10)⟩,
    ⟨(some 12), none, .ld false 1 (.t 11)⟩,
    ⟨(some 13), none, .mov (.t 1)⟩,
    ⟨(some 14), none, .iad 1 (.t 12) (.t 13)⟩,
    ⟨(some 15), none, .ld false 1 (.t 14)⟩,
    ⟨(some 4), none, .mov (.t 15)⟩] (some [4]))
   (.ret)))
def F_trail_Trail_string_Stamp : F := ⟨i_trail_Trail_string_Stamp, [(4, none)], true⟩
/-- (*stratagem/trail.Trail[int]).Set -/
def i_trail_Trail_int_Set : IR := .seq (.rg [⟨(some 6), none, .mov (.c (.int .i64 0))⟩] (some [0, 1, 2]))
   (.seq (.seq (.rg [⟨(some 10), none, .mov (.t 0)⟩,
    ⟨(some 11), none, .mov (.t 1)⟩,
    ⟨(some 12), none, .call n_trail_Trail_int_there [(.t 10), (.t 11)]⟩,
    ⟨(some 13), none, .un .not (.t 12)⟩] (some [0, 1, 2, 13]))
   (.cond (.t 13) (.seq (.rg [⟨(some 6), none, .mov (.c (.int .i64 1))⟩] (some [6]))
   (.ret)) (.skip)))
   (.seq (.rg [⟨(some 14), none, .mov (.t 0)⟩,
    ⟨(some 15), none, .call n_trail_Trail_int_last [(.t 14)]⟩,
    ⟨(some 7), none, .mov (.t 15)⟩] (some [0, 1, 2, 7]))
   (.seq (.seq (.rg [⟨(some 17), none, .mov (.t 7)⟩,
    ⟨(some 18), none, .mov (.t 1)⟩,
    ⟨(some 19), none, .op (.lku (some .i64) (.int .i64 0) true) [(.t 17), (.t 18)]⟩,
    ⟨(some 16), none, .mov (.t 19)⟩,
    ⟨(some 20), none, .ext (.t 16) 0⟩,
    ⟨(some 21), none, .ext (.t 16) 1⟩,
    ⟨(some 8), none, .mov (.t 20)⟩,
    ⟨(some 9), none, .mov (.t 21)⟩] (some [0, 1, 2, 7, 9]))
   (.seq (.rg [⟨(some 22), none, .mov (.t 9)⟩,
    ⟨(some 23), none, .un .not (.t 22)⟩] (some [0, 1, 2, 7, 23]))
   (.cond (.t 23) (.rg [⟨(some 24), none, .mov (.t 7)⟩,
    ⟨(some 25), none, .mov (.t 1)⟩,
    ⟨(some 26), none, .mov (.t 0)⟩,
    ⟨(some 27), none, .nck (.t 26)⟩,
    ⟨(some 28), none, .fad 0 (.t 27)⟩,
    ⟨(some 29), none, .ld false 1 (.t 28)⟩,
    ⟨(some 30), none, .mov (.t 1)⟩,
    ⟨(some 31), none, .iad 1 (.t 29) (.t 30)⟩,
    ⟨(some 32), none, .ld false 1 (.t 31)⟩,
    ⟨none, none, .op (.mpu (some .i64)) [(.t 24), (.t 25), (.t 32)]⟩] (some [0, 1, 2])) (.skip))))
   (.seq (.rg [⟨(some 33), none, .mov (.t 0)⟩,
    ⟨(some 34), none, .mov (.t 1)⟩,
    ⟨(some 35), none, .mov (.t 2)⟩,
    ⟨(some 36), none, .call n_trail_Trail_int_put [(.t 33), (.t 34), (.t 35)]⟩] (some []))
   (.seq (.rg [⟨(some 6), none, .mov (.c (.int .i64 0))⟩] (some [6]))
   (.ret))))))
def F_trail_Trail_int_Set : F := ⟨i_trail_Trail_int_Set, [(6, none)], true⟩
/-- (*stratagem/stratagemref05.Trail).Put -/
def i_ref05_Trail_Put : IR := .seq (.seq (.rg [⟨(some 6), none, .mov (.t 0)⟩,
    ⟨(some 7), none, .nck (.t 6)⟩,
    ⟨(some 8), none, .fad 0 (.t 7)⟩,
    ⟨(some 9), none, .ld false 1 (.t 8)⟩,
    ⟨(some 10), none, .mov (.t 1)⟩,
    ⟨(some 11), none, .iad 1 (.t 9) (.t 10)⟩,
    ⟨(some 12), none, .ld false 1 (.t 11)⟩,
    ⟨(some 13), none, .mov (.t 2)⟩,
    ⟨(some 14), none, .bin .neq (.t 12) (.t 13)⟩] (some [0, 1, 2, 14]))
   (.cond (.t 14) (.rg [⟨(some 15), none, .mov (.t 0)⟩,
    ⟨(some 16), none, .nck (.t 15)⟩,
    ⟨(some 17), none, .fad 1 (.t 16)⟩,
    ⟨(some 18), none, .ld false 1 (.t 17)⟩,
    ⟨(some 19), none, .mov (.t 1)⟩,
    ⟨(some 20), none, .iad 1 (.t 18) (.t 19)⟩,
    ⟨(some 21), none, .ld false 1 (.t 20)⟩,
    ⟨(some 22), none, .bin .add (.t 21) (.c (.int .i64 1))⟩,
    ⟨(some 23), none, .iad 1 (.t 18) (.t 19)⟩,
    ⟨none, none, .st 1 (.t 23) (.t 22)⟩] (some [0, 1, 2])) (.skip)))
   (.rg [⟨(some 24), none, .mov (.t 0)⟩,
    ⟨(some 25), none, .nck (.t 24)⟩,
    ⟨(some 26), none, .fad 0 (.t 25)⟩,
    ⟨(some 27), none, .ld false 1 (.t 26)⟩,
    ⟨(some 28), none, .mov (.t 1)⟩,
    ⟨(some 29), none, .mov (.t 2)⟩,
    ⟨(some 30), none, .iad 1 (.t 27) (.t 28)⟩,
    ⟨none, none, .st 1 (.t 30) (.t 29)⟩] (some []))
def F_ref05_Trail_Put : F := ⟨i_ref05_Trail_Put, [], true⟩
/-- (*stratagem/trail.Trail[int]).last -/
def i_trail_Trail_int_last : IR := .seq (.rg [⟨(some 2), none, .mov (.c (.nmp))⟩] (some [0]))
   (.seq (.dq [(⟨(some 3), none, .mov (.t 0)⟩, []),
    (⟨(some 4), none, .nck (.t 3)⟩, [0]),
    (⟨(some 5), none, .fad 2 (.t 4)⟩, [0, 1]),
    (⟨(some 6), none, .ld false 1 (.t 5)⟩, [0, 1, 2]),
    (⟨(some 7), none, .mov (.t 0)⟩, []),
    (⟨(some 8), none, .nck (.t 7)⟩, [4]),
    (⟨(some 9), none, .fad 2 (.t 8)⟩, [4, 5]),
    (⟨(some 10), none, .ld false 1 (.t 9)⟩, [4, 5, 6]),
    (⟨(some 11), none, .len (.t 10)⟩, [4, 5, 6, 7]),
    (⟨(some 12), none, .bin .sub (.t 11) (.c (.int .i64 1))⟩, [4, 5, 6, 7, 8]),
    (⟨(some 13), none, .iad 1 (.t 6) (.t 12)⟩, [0, 1, 2, 3, 4, 5, 6, 7, 8, 9]),
    (⟨(some 14), none, .ld false 1 (.t 13)⟩, [0, 1, 2, 3, 4, 5, 6, 7, 8, 9, 10]),
    (⟨(some 2), none, .mov (.t 14)⟩, [0, 1, 2, 3, 4, 5, 6, 7, 8, 9, 10, 11])] (some [2]))
   (.ret))
def F_trail_Trail_int_last : F := ⟨i_trail_Trail_int_last, [(2, none)], true⟩
/-- (*stratagem/trail.Trail[int]).there -/
def i_trail_Trail_int_there : IR := .seq (.rg [⟨(some 4), none, .mov (.c (.bool false))⟩] (some [0, 1]))
   (.seq (.rg [⟨(some 5), none, .mov (.t 1)⟩,
    ⟨(some 6), none, .bin .geq (.t 5) (.c (.int .i64 0))⟩,
    ⟨(some 7), none, .mov (.t 6)⟩,
    ⟨(some 8), (some (7, true)), .mov (.t 1)⟩,
    ⟨(some 9), (some (7, true)), .mov (.t 0)⟩,
    ⟨(some 10), (some (7, true)), .nck (.t 9)⟩,
    ⟨(some 11), (some (7, true)), .fad 0 (.t 10)⟩,
    ⟨(some 12), (some (7, true)), .ld false 1 (.t 11)⟩,
    ⟨(some 13), (some (7, true)), .len (.t 12)⟩,
    ⟨(some 14), (some (7, true)), .bin .lss (.t 8) (.t 13)⟩,
    ⟨(some 15), none, .pick (.t 7) (.t 14) (.c (.bool false))⟩,
    ⟨(some 4), none, .mov (.t 15)⟩] (some [4]))
   (.ret))
def F_trail_Trail_int_there : F := ⟨i_trail_Trail_int_there, [(4, none)], true⟩
/-- (*stratagem/trail.Trail[int]).put -/
def i_trail_Trail_int_put : IR := .seq (.rg [⟨(some 6), none, .mov (.t 0)⟩,
    ⟨(some 7), none, .nck (.t 6)⟩,
    ⟨(some 8), none, .fad 0 (.t 7)⟩,
    ⟨(some 9), none, .ld false 1 (.t 8)⟩,
    ⟨(some 10), none, .mov (.t 1)⟩,
    ⟨(some 11), none, .iad 1 (.t 9) (.t 10)⟩,
    ⟨(some 12), none, .ld false 1 (.t 11)⟩,
    ⟨(some 13), none, .mov (.t 2)⟩,
    ⟨(some 14), none, .bin .neq (.t 12) (.t 13)⟩] (some [0, 1, 2, 14]))
   (.cond (.t 14) (.seq (.rg [⟨(some 15), none, .mov (.t 0)⟩,
    ⟨(some 16), none, .nck (.t 15)⟩,
    ⟨(some 17), none, .fad 0 (.t 16)⟩,
    ⟨(some 18), none, .ld false 1 (.t 17)⟩,
    ⟨(some 19), none, .mov (.t 1)⟩,
    ⟨(some 20), none, .mov (.t 2)⟩,
    ⟨(some 21), none, .iad 1 (.t 18) (.t 19)⟩,
    ⟨none, none, .st 1 (.t 21) (.t 20)⟩] (some [0, 1]))
   (.rg [⟨(some 22), none, .mov (.t 0)⟩,
    ⟨(some 23), none, .nck (.t 22)⟩,
    ⟨(some 24), none, .fad 1 (.t 23)⟩,
    ⟨(some 25), none, .ld false 1 (.t 24)⟩,
    ⟨(some 26), none, .mov (.t 1)⟩,
    ⟨(some 27), none, .iad 1 (.t 25) (.t 26)⟩,
    ⟨(some 28), none, .ld false 1 (.t 27)⟩,
    ⟨(some 29), none, .bin .add (.t 28) (.c (.int .i64 1))⟩,
    ⟨(some 30), none, .iad 1 (.t 25) (.t 26)⟩,
    ⟨none, none, .st 1 (.t 30) (.t 29)⟩] (some []))) (.skip))
def F_trail_Trail_int_put : F := ⟨i_trail_Trail_int_put, [], true⟩
/-- (*stratagem/trail.Trail[int]).carry -/
def i_trail_Trail_int_carry : IR := .seq (.rg [⟨(some 1), none, .box (.t 0)⟩] (some [1]))
   (.rg [⟨(some 2), none, .ld false 1 (.t 1)⟩,
    ⟨(some 3), none, .call n_trail_Trail_int_last [(.t 2)]⟩,
    ⟨(some 4), none, .mkf (.func n_trail_Trail_int_carry_1) [] [(.t 1)]⟩,
    ⟨(some 5), none, .call n_maps_DeleteFunc_map_int_int_int_int [(.t 3), (.t 4)]⟩] (some []))
def F_trail_Trail_int_carry : F := ⟨i_trail_Trail_int_carry, [], true⟩
/-- (*stratagem/trail.Trail[string]).there -/
def i_trail_Trail_string_there : IR := .seq (.rg [⟨(some 4), none, .mov (.c (.bool false))⟩] (some [0, 1]))
   (.seq (.rg [⟨(some 5), none, .mov (.t 1)⟩,
    ⟨(some 6), none, .bin .geq (.t 5) (.c (.int .i64 0))⟩,
    ⟨(some 7), none, .mov (.t 6)⟩,
    ⟨(some 8), (some (7, true)), .mov (.t 1)⟩,
    ⟨(some 9), (some (7, true)), .mov (.t 0)⟩,
    ⟨(some 10), (some (7, true)), .nck (.t 9)⟩,
    ⟨(some 11), (some (7, true)), .fad 0 (.t 10)⟩,
    ⟨(some 12), (some (7, true)), .ld false 1 (.t 11)⟩,
    ⟨(some 13), (some (7, true)), .len (.t 12)⟩,
    ⟨(some 14), (some (7, true)), .bin .lss (.t 8) (.t 13)⟩,
    ⟨(some 15), none, .pick (.t 7) (.t 14) (.c (.bool false))⟩,
    ⟨(some 4), none, .mov (.t 15)⟩] (some [4]))
   (.ret))
def F_trail_Trail_string_there : F := ⟨i_trail_Trail_string_there, [(4, none)], true⟩
/-- (*stratagem/trail.Trail[string]).last -/
def i_trail_Trail_string_last : IR := .seq (.rg [⟨(some 2), none, .mov (.c (.nmp))⟩] (some [0]))
   (.seq (.dq [(⟨(some 3), none, .mov (.t 0)⟩, []),
    (⟨(some 4), none, .nck (.t 3)⟩, [0]),
    (⟨(some 5), none, .fad 2 (.t 4)⟩, [0, 1]),
    (⟨(some 6), none, .ld false 1 (.t 5)⟩, [0, 1, 2]),
    (⟨(some 7), none, .mov (.t 0)⟩, []),
    (⟨(some 8), none, .nck (.t 7)⟩, [4]),
    (⟨(some 9), none, .fad 2 (.t 8)⟩, [4, 5]),
    (⟨(some 10), none, .ld false 1 (.t 9)⟩, [4, 5, 6]),
    (⟨(some 11), none, .len (.t 10)⟩, [4, 5, 6, 7]),
    (⟨(some 12), none, .bin .sub (.t 11) (.c (.int .i64 1))⟩, [4, 5, 6, 7, 8]),
    (⟨(some 13), none, .iad 1 (.t 6) (.t 12)⟩, [0, 1, 2, 3, 4, 5, 6, 7, 8, 9]),
    (⟨(some 14), none, .ld false 1 (.t 13)⟩, [0, 1, 2, 3, 4, 5, 6, 7, 8, 9, 10]),
    (⟨(some 2), none, .mov (.t 14)⟩, [0, 1, 2, 3, 4, 5, 6, 7, 8, 9, 10, 11])] (some [2]))
   (.ret))
def F_trail_Trail_string_last : F := ⟨i_trail_Trail_string_last, [(2, none)], true⟩
/-- (*stratagem/trail.Trail[string]).put -/
def i_trail_Trail_string_put : IR := .seq (.rg [⟨(some 6), none, .mov (.t 0)⟩,
    ⟨(some 7), none, .nck (.t 6)⟩,
    ⟨(some 8), none, .fad 0 (.t 7)⟩,
    ⟨(some 9), none, .ld false 1 (.t 8)⟩,
    ⟨(some 10), none, .mov (.t 1)⟩,
    ⟨(some 11), none, .iad 1 (.t 9) (.t 10)⟩,
    ⟨(some 12), none, .ld false 1 (.t 11)⟩,
    ⟨(some 13), none, .mov (.t 2)⟩,
    ⟨(some 14), none, .bin .neq (.t 12) (.t 13)⟩] (some [0, 1, 2, 14]))
   (.cond (.t 14) (.seq (.rg [⟨(some 15), none, .mov (.t 0)⟩,
    ⟨(some 16), none, .nck (.t 15)⟩,
    ⟨(some 17), none, .fad 0 (.t 16)⟩,
    ⟨(some 18), none, .ld false 1 (.t 17)⟩,
    ⟨(some 19), none, .mov (.t 1)⟩,
    ⟨(some 20), none, .mov (.t 2)⟩,
    ⟨(some 21), none, .iad 1 (.t 18) (.t 19)⟩,
    ⟨none, none, .st 1 (.t 21) (.t 20)⟩] (some [0, 1]))
   (.rg [⟨(some 22), none, .mov (.t 0)⟩,
    ⟨(some 23), none, .nck (.t 22)⟩,
    ⟨(some 24), none, .fad 1 (.t 23)⟩,
    ⟨(some 25), none, .ld false 1 (.t 24)⟩,
    ⟨(some 26), none, .mov (.t 1)⟩,
    ⟨(some 27), none, .iad 1 (.t 25) (.t 26)⟩,
    ⟨(some 28), none, .ld false 1 (.t 27)⟩,
    ⟨(some 29), none, .bin .add (.t 28) (.c (.int .i64 1))⟩,
    ⟨(some 30), none, .iad 1 (.t 25) (.t 26)⟩,
    ⟨none, none, .st 1 (.t 30) (.t 29)⟩] (some []))) (.skip))
def F_trail_Trail_string_put : F := ⟨i_trail_Trail_string_put, [], true⟩
/-- (*stratagem/trail.Trail[string]).Marks -/
def i_trail_Trail_string_Marks : IR := .seq (.rg [⟨(some 2), none, .mov (.c (.int .i64 0))⟩] (some [0]))
   (.seq (.rg [⟨(some 3), none, .mov (.t 0)⟩,
    ⟨(some 4), none, .nck (.t 3)⟩,
    ⟨(some 5), none, .fad 2 (.t 4)⟩,
    ⟨(some 6), none, .ld false 1 (.t 5)⟩,
    ⟨(some 7), none, .len (.t 6)⟩,
    ⟨(some 8), none, .bin .sub (.t 7) (.c (.int .i64 1))⟩,
    ⟨(some 2), none, .mov (.t 8)⟩] (some [2]))
   (.ret))
def F_trail_Trail_string_Marks : F := ⟨i_trail_Trail_string_Marks, [(2, none)], true⟩
/-- (*stratagem/trail.Trail[string]).carry -/
def i_trail_Trail_string_carry : IR := .seq (.rg [⟨(some 1), none, .box (.t 0)⟩] (some [1]))
   (.rg [⟨(some 2), none, .ld false 1 (.t 1)⟩,
    ⟨(some 3), none, .call n_trail_Trail_string_last [(.t 2)]⟩,
    ⟨(some 4), none, .mkf (.func n_trail_Trail_string_carry_1) [] [(.t 1)]⟩,
    ⟨(some 5), none, .call n_maps_DeleteFunc_map_int_string_int_string [(.t 3), (.t 4)]⟩] (some []))
def F_trail_Trail_string_carry : F := ⟨i_trail_Trail_string_carry, [], true⟩
/-- maps.DeleteFunc[map[int]int,int,int] -/
def x_maps_DeleteFunc_map_int_int_int_int_0 : IR := .seq (.rg [⟨(some 13), none, .mov (.t 1)⟩,
    ⟨(some 14), none, .mov (.t 4)⟩,
    ⟨(some 15), none, .mov (.t 5)⟩,
    ⟨(some 16), none, .callv (.t 13) [(.t 14), (.t 15)]⟩] (some [0, 1, 4, 7, 16]))
   (.cond (.t 16) (.rg [⟨(some 17), none, .mov (.t 0)⟩,
    ⟨(some 18), none, .mov (.t 4)⟩,
    ⟨none, none, .op (.mdl (some .i64)) [(.t 17), (.t 18)]⟩] (some [0, 1, 7])) (.skip))
def X_maps_DeleteFunc_map_int_int_int_int_0 : Rm := { pre := [⟨(some 6), none, .mov (.t 0)⟩], m := (.t 6), it := 7, kA := some [0, 1, 7], b0 := 0, nx := 8, bl := [⟨(some 9), none, .ext (.t 8) 0⟩], kB := some [0, 1, 7, 9], ok := (.t 9), b1 := 1, en := 10, dl := [⟨(some 11), none, .ext (.t 10) 0⟩, ⟨(some 12), none, .ext (.t 10) 1⟩, ⟨(some 4), none, .mov (.t 11)⟩, ⟨(some 5), none, .mov (.t 12)⟩], kD := some [0, 1, 4, 5, 7], body := x_maps_DeleteFunc_map_int_int_int_int_0 }
def q_maps_DeleteFunc_map_int_int_int_int : RN := .rm X_maps_DeleteFunc_map_int_int_int_int_0
def F_maps_DeleteFunc_map_int_int_int_int : FN := ⟨q_maps_DeleteFunc_map_int_int_int_int, []⟩
/-- (*stratagem/trail.Trail[int]).carry$1 -/
def i_trail_Trail_int_carry_1 : IR := .seq (.rg [⟨(some 5), none, .mov (.c (.bool false))⟩] (some [0, 1, 2]))
   (.seq (.rg [⟨(some 6), none, .ld false 1 (.t 2)⟩,
    ⟨(some 7), none, .nck (.t 6)⟩,
    ⟨(some 8), none, .fad 0 (.t 7)⟩,
    ⟨(some 9), none, .ld false 1 (.t 8)⟩,
    ⟨(some 10), none, .mov (.t 0)⟩,
    ⟨(some 11), none, .iad 1 (.t 9) (.t 10)⟩,
    ⟨(some 12), none, .ld false 1 (.t 11)⟩,
    ⟨(some 13), none, .mov (.t 1)⟩,
    ⟨(some 14), none, .bin .eql (.t 12) (.t 13)⟩,
    ⟨(some 5), none, .mov (.t 14)⟩] (some [5]))
   (.ret))
def F_trail_Trail_int_carry_1 : F := ⟨i_trail_Trail_int_carry_1, [(5, none)], true⟩
/-- maps.DeleteFunc[map[int]string,int,string] -/
def x_maps_DeleteFunc_map_int_string_int_string_0 : IR := .seq (.rg [⟨(some 13), none, .mov (.t 1)⟩,
    ⟨(some 14), none, .mov (.t 4)⟩,
    ⟨(some 15), none, .mov (.t 5)⟩,
    ⟨(some 16), none, .callv (.t 13) [(.t 14), (.t 15)]⟩] (some [0, 1, 4, 7, 16]))
   (.cond (.t 16) (.rg [⟨(some 17), none, .mov (.t 0)⟩,
    ⟨(some 18), none, .mov (.t 4)⟩,
    ⟨none, none, .op (.mdl (some .i64)) [(.t 17), (.t 18)]⟩] (some [0, 1, 7])) (.skip))
def X_maps_DeleteFunc_map_int_string_int_string_0 : Rm := { pre := [⟨(some 6), none, .mov (.t 0)⟩], m := (.t 6), it := 7, kA := some [0, 1, 7], b0 := 0, nx := 8, bl := [⟨(some 9), none, .ext (.t 8) 0⟩], kB := some [0, 1, 7, 9], ok := (.t 9), b1 := 1, en := 10, dl := [⟨(some 11), none, .ext (.t 10) 0⟩, ⟨(some 12), none, .ext (.t 10) 1⟩, ⟨(some 4), none, .mov (.t 11)⟩, ⟨(some 5), none, .mov (.t 12)⟩], kD := some [0, 1, 4, 5, 7], body := x_maps_DeleteFunc_map_int_string_int_string_0 }
def q_maps_DeleteFunc_map_int_string_int_string : RN := .rm X_maps_DeleteFunc_map_int_string_int_string_0
def F_maps_DeleteFunc_map_int_string_int_string : FN := ⟨q_maps_DeleteFunc_map_int_string_int_string, []⟩
/-- (*stratagem/trail.Trail[string]).carry$1 -/
def i_trail_Trail_string_carry_1 : IR := .seq (.rg [⟨(some 5), none, .mov (.c (.bool false))⟩] (some [0, 1, 2]))
   (.seq (.rg [⟨(some 6), none, .ld false 1 (.t 2)⟩,
    ⟨(some 7), none, .nck (.t 6)⟩,
    ⟨(some 8), none, .fad 0 (.t 7)⟩,
    ⟨(some 9), none, .ld false 1 (.t 8)⟩,
    ⟨(some 10), none, .mov (.t 0)⟩,
    ⟨(some 11), none, .iad 1 (.t 9) (.t 10)⟩,
    ⟨(some 12), none, .ld false 1 (.t 11)⟩,
    ⟨(some 13), none, .mov (.t 1)⟩,
    ⟨(some 14), none, .bin .eql (.t 12) (.t 13)⟩,
    ⟨(some 5), none, .mov (.t 14)⟩] (some [5]))
   (.ret))
def F_trail_Trail_string_carry_1 : F := ⟨i_trail_Trail_string_carry_1, [(5, none)], true⟩
theorem ok_law05_TrailDoes : mF Go.Proofs.Try.prog n_law05_TrailDoes F_law05_TrailDoes = true := by kernel_rfl
theorem ok_law05_TrailBack : mF Go.Proofs.Try.prog n_law05_TrailBack F_law05_TrailBack = true := by kernel_rfl
theorem ok_law05_TrailTypes : mF Go.Proofs.Try.prog n_law05_TrailTypes F_law05_TrailTypes = true := by kernel_rfl
theorem ok_law05_awake : mF Go.Proofs.Try.prog n_law05_awake F_law05_awake = true := by kernel_rfl
theorem ok_trail_New_int : mF Go.Proofs.Try.prog n_trail_New_int F_trail_New_int = true := by kernel_rfl
theorem ok_ref05_New : mF Go.Proofs.Try.prog n_ref05_New F_ref05_New = true := by kernel_rfl
theorem ok_law05_do : mF Go.Proofs.Try.prog n_law05_do F_law05_do = true := by kernel_rfl
theorem ok_ref05_Trail_Set : mF Go.Proofs.Try.prog n_ref05_Trail_Set F_ref05_Trail_Set = true := by kernel_rfl
theorem ok_ref05_Trail_Save : mF Go.Proofs.Try.prog n_ref05_Trail_Save F_ref05_Trail_Save = true := by kernel_rfl
theorem ok_ref05_Trail_Undo : mF Go.Proofs.Try.prog n_ref05_Trail_Undo F_ref05_Trail_Undo = true := by kernel_rfl
theorem ok_trail_Trail_int_Marks : mF Go.Proofs.Try.prog n_trail_Trail_int_Marks F_trail_Trail_int_Marks = true := by kernel_rfl
theorem ok_trail_Trail_int_Len : mF Go.Proofs.Try.prog n_trail_Trail_int_Len F_trail_Trail_int_Len = true := by kernel_rfl
theorem ok_ref02_Same : mF Go.Proofs.Try.prog n_ref02_Same F_ref02_Same = true := by kernel_rfl
theorem ok_ref05_Trail_Changed : mF Go.Proofs.Try.prog n_ref05_Trail_Changed F_ref05_Trail_Changed = true := by kernel_rfl
theorem ok_trail_Trail_int_Get : mF Go.Proofs.Try.prog n_trail_Trail_int_Get F_trail_Trail_int_Get = true := by kernel_rfl
theorem ok_trail_Trail_int_Stamp : mF Go.Proofs.Try.prog n_trail_Trail_int_Stamp F_trail_Trail_int_Stamp = true := by kernel_rfl
theorem ok_trail_Trail_int_Save : mF Go.Proofs.Try.prog n_trail_Trail_int_Save F_trail_Trail_int_Save = true := by kernel_rfl
theorem ok_trail_New_string : mF Go.Proofs.Try.prog n_trail_New_string F_trail_New_string = true := by kernel_rfl
theorem ok_trail_Trail_string_Set : mF Go.Proofs.Try.prog n_trail_Trail_string_Set F_trail_Trail_string_Set = true := by kernel_rfl
theorem ok_trail_Trail_string_Save : mF Go.Proofs.Try.prog n_trail_Trail_string_Save F_trail_Trail_string_Save = true := by kernel_rfl
theorem ok_trail_Trail_string_Get : mF Go.Proofs.Try.prog n_trail_Trail_string_Get F_trail_Trail_string_Get = true := by kernel_rfl
theorem ok_trail_Trail_string_Stamp : mF Go.Proofs.Try.prog n_trail_Trail_string_Stamp F_trail_Trail_string_Stamp = true := by kernel_rfl
theorem ok_trail_Trail_int_Set : mF Go.Proofs.Try.prog n_trail_Trail_int_Set F_trail_Trail_int_Set = true := by kernel_rfl
theorem ok_ref05_Trail_Put : mF Go.Proofs.Try.prog n_ref05_Trail_Put F_ref05_Trail_Put = true := by kernel_rfl
theorem ok_trail_Trail_int_last : mF Go.Proofs.Try.prog n_trail_Trail_int_last F_trail_Trail_int_last = true := by kernel_rfl
theorem ok_trail_Trail_int_there : mF Go.Proofs.Try.prog n_trail_Trail_int_there F_trail_Trail_int_there = true := by kernel_rfl
theorem ok_trail_Trail_int_put : mF Go.Proofs.Try.prog n_trail_Trail_int_put F_trail_Trail_int_put = true := by kernel_rfl
theorem ok_trail_Trail_int_carry : mF Go.Proofs.Try.prog n_trail_Trail_int_carry F_trail_Trail_int_carry = true := by kernel_rfl
theorem ok_trail_Trail_string_there : mF Go.Proofs.Try.prog n_trail_Trail_string_there F_trail_Trail_string_there = true := by kernel_rfl
theorem ok_trail_Trail_string_last : mF Go.Proofs.Try.prog n_trail_Trail_string_last F_trail_Trail_string_last = true := by kernel_rfl
theorem ok_trail_Trail_string_put : mF Go.Proofs.Try.prog n_trail_Trail_string_put F_trail_Trail_string_put = true := by kernel_rfl
theorem ok_trail_Trail_string_Marks : mF Go.Proofs.Try.prog n_trail_Trail_string_Marks F_trail_Trail_string_Marks = true := by kernel_rfl
theorem ok_trail_Trail_string_carry : mF Go.Proofs.Try.prog n_trail_Trail_string_carry F_trail_Trail_string_carry = true := by kernel_rfl
theorem ok_trail_Trail_int_carry_1 : mF Go.Proofs.Try.prog n_trail_Trail_int_carry_1 F_trail_Trail_int_carry_1 = true := by kernel_rfl
theorem ok_trail_Trail_string_carry_1 : mF Go.Proofs.Try.prog n_trail_Trail_string_carry_1 F_trail_Trail_string_carry_1 = true := by kernel_rfl
def tbl : List (Nat × F) := [(n_law05_TrailDoes, F_law05_TrailDoes), (n_law05_TrailBack, F_law05_TrailBack), (n_law05_TrailTypes, F_law05_TrailTypes), (n_law05_awake, F_law05_awake), (n_trail_New_int, F_trail_New_int), (n_ref05_New, F_ref05_New), (n_law05_do, F_law05_do), (n_ref05_Trail_Set, F_ref05_Trail_Set), (n_ref05_Trail_Save, F_ref05_Trail_Save), (n_ref05_Trail_Undo, F_ref05_Trail_Undo), (n_trail_Trail_int_Marks, F_trail_Trail_int_Marks), (n_trail_Trail_int_Len, F_trail_Trail_int_Len), (n_ref02_Same, F_ref02_Same), (n_ref05_Trail_Changed, F_ref05_Trail_Changed), (n_trail_Trail_int_Get, F_trail_Trail_int_Get), (n_trail_Trail_int_Stamp, F_trail_Trail_int_Stamp), (n_trail_Trail_int_Save, F_trail_Trail_int_Save), (n_trail_New_string, F_trail_New_string), (n_trail_Trail_string_Set, F_trail_Trail_string_Set), (n_trail_Trail_string_Save, F_trail_Trail_string_Save), (n_trail_Trail_string_Get, F_trail_Trail_string_Get), (n_trail_Trail_string_Stamp, F_trail_Trail_string_Stamp), (n_trail_Trail_int_Set, F_trail_Trail_int_Set), (n_ref05_Trail_Put, F_ref05_Trail_Put), (n_trail_Trail_int_last, F_trail_Trail_int_last), (n_trail_Trail_int_there, F_trail_Trail_int_there), (n_trail_Trail_int_put, F_trail_Trail_int_put), (n_trail_Trail_int_carry, F_trail_Trail_int_carry), (n_trail_Trail_string_there, F_trail_Trail_string_there), (n_trail_Trail_string_last, F_trail_Trail_string_last), (n_trail_Trail_string_put, F_trail_Trail_string_put), (n_trail_Trail_string_Marks, F_trail_Trail_string_Marks), (n_trail_Trail_string_carry, F_trail_Trail_string_carry), (n_trail_Trail_int_carry_1, F_trail_Trail_int_carry_1), (n_trail_Trail_string_carry_1, F_trail_Trail_string_carry_1)]
def T (n : Nat) : Option F := (tbl.find? fun p => p.1 == n).map (·.2)
theorem T_law05_TrailDoes : T n_law05_TrailDoes = some F_law05_TrailDoes := rfl
theorem T_law05_TrailBack : T n_law05_TrailBack = some F_law05_TrailBack := rfl
theorem T_law05_TrailTypes : T n_law05_TrailTypes = some F_law05_TrailTypes := rfl
theorem T_law05_awake : T n_law05_awake = some F_law05_awake := rfl
theorem T_trail_New_int : T n_trail_New_int = some F_trail_New_int := rfl
theorem T_ref05_New : T n_ref05_New = some F_ref05_New := rfl
theorem T_law05_do : T n_law05_do = some F_law05_do := rfl
theorem T_ref05_Trail_Set : T n_ref05_Trail_Set = some F_ref05_Trail_Set := rfl
theorem T_ref05_Trail_Save : T n_ref05_Trail_Save = some F_ref05_Trail_Save := rfl
theorem T_ref05_Trail_Undo : T n_ref05_Trail_Undo = some F_ref05_Trail_Undo := rfl
theorem T_trail_Trail_int_Marks : T n_trail_Trail_int_Marks = some F_trail_Trail_int_Marks := rfl
theorem T_trail_Trail_int_Len : T n_trail_Trail_int_Len = some F_trail_Trail_int_Len := rfl
theorem T_ref02_Same : T n_ref02_Same = some F_ref02_Same := rfl
theorem T_ref05_Trail_Changed : T n_ref05_Trail_Changed = some F_ref05_Trail_Changed := rfl
theorem T_trail_Trail_int_Get : T n_trail_Trail_int_Get = some F_trail_Trail_int_Get := rfl
theorem T_trail_Trail_int_Stamp : T n_trail_Trail_int_Stamp = some F_trail_Trail_int_Stamp := rfl
theorem T_trail_Trail_int_Save : T n_trail_Trail_int_Save = some F_trail_Trail_int_Save := rfl
theorem T_trail_New_string : T n_trail_New_string = some F_trail_New_string := rfl
theorem T_trail_Trail_string_Set : T n_trail_Trail_string_Set = some F_trail_Trail_string_Set := rfl
theorem T_trail_Trail_string_Save : T n_trail_Trail_string_Save = some F_trail_Trail_string_Save := rfl
theorem T_trail_Trail_string_Get : T n_trail_Trail_string_Get = some F_trail_Trail_string_Get := rfl
theorem T_trail_Trail_string_Stamp : T n_trail_Trail_string_Stamp = some F_trail_Trail_string_Stamp := rfl
theorem T_trail_Trail_int_Set : T n_trail_Trail_int_Set = some F_trail_Trail_int_Set := rfl
theorem T_ref05_Trail_Put : T n_ref05_Trail_Put = some F_ref05_Trail_Put := rfl
theorem T_trail_Trail_int_last : T n_trail_Trail_int_last = some F_trail_Trail_int_last := rfl
theorem T_trail_Trail_int_there : T n_trail_Trail_int_there = some F_trail_Trail_int_there := rfl
theorem T_trail_Trail_int_put : T n_trail_Trail_int_put = some F_trail_Trail_int_put := rfl
theorem T_trail_Trail_int_carry : T n_trail_Trail_int_carry = some F_trail_Trail_int_carry := rfl
theorem T_trail_Trail_string_there : T n_trail_Trail_string_there = some F_trail_Trail_string_there := rfl
theorem T_trail_Trail_string_last : T n_trail_Trail_string_last = some F_trail_Trail_string_last := rfl
theorem T_trail_Trail_string_put : T n_trail_Trail_string_put = some F_trail_Trail_string_put := rfl
theorem T_trail_Trail_string_Marks : T n_trail_Trail_string_Marks = some F_trail_Trail_string_Marks := rfl
theorem T_trail_Trail_string_carry : T n_trail_Trail_string_carry = some F_trail_Trail_string_carry := rfl
theorem T_trail_Trail_int_carry_1 : T n_trail_Trail_int_carry_1 = some F_trail_Trail_int_carry_1 := rfl
theorem T_trail_Trail_string_carry_1 : T n_trail_Trail_string_carry_1 = some F_trail_Trail_string_carry_1 := rfl
theorem T_ok : ∀ f F, T f = some F → mF Go.Proofs.Try.prog f F = true := by
  intro f F h
  unfold T at h
  obtain ⟨p, hp, rfl⟩ := Option.map_eq_some_iff.1 h
  have h1 := List.mem_of_find?_eq_some hp
  have h2 : p.1 = f := by simpa using List.find?_some hp
  subst h2
  clear h hp
  simp only [tbl, List.mem_cons, List.not_mem_nil, or_false] at h1
  rcases h1 with rfl | rfl | rfl | rfl | rfl | rfl | rfl | rfl | rfl | rfl | rfl | rfl | rfl | rfl | rfl | rfl | rfl | rfl | rfl | rfl | rfl | rfl | rfl | rfl | rfl | rfl | rfl | rfl | rfl | rfl | rfl | rfl | rfl | rfl | rfl
  · exact ok_law05_TrailDoes
  · exact ok_law05_TrailBack
  · exact ok_law05_TrailTypes
  · exact ok_law05_awake
  · exact ok_trail_New_int
  · exact ok_ref05_New
  · exact ok_law05_do
  · exact ok_ref05_Trail_Set
  · exact ok_ref05_Trail_Save
  · exact ok_ref05_Trail_Undo
  · exact ok_trail_Trail_int_Marks
  · exact ok_trail_Trail_int_Len
  · exact ok_ref02_Same
  · exact ok_ref05_Trail_Changed
  · exact ok_trail_Trail_int_Get
  · exact ok_trail_Trail_int_Stamp
  · exact ok_trail_Trail_int_Save
  · exact ok_trail_New_string
  · exact ok_trail_Trail_string_Set
  · exact ok_trail_Trail_string_Save
  · exact ok_trail_Trail_string_Get
  · exact ok_trail_Trail_string_Stamp
  · exact ok_trail_Trail_int_Set
  · exact ok_ref05_Trail_Put
  · exact ok_trail_Trail_int_last
  · exact ok_trail_Trail_int_there
  · exact ok_trail_Trail_int_put
  · exact ok_trail_Trail_int_carry
  · exact ok_trail_Trail_string_there
  · exact ok_trail_Trail_string_last
  · exact ok_trail_Trail_string_put
  · exact ok_trail_Trail_string_Marks
  · exact ok_trail_Trail_string_carry
  · exact ok_trail_Trail_int_carry_1
  · exact ok_trail_Trail_string_carry_1
theorem ok_trail_Trail_int_Changed : mFN Go.Proofs.Try.prog n_trail_Trail_int_Changed F_trail_Trail_int_Changed = true := by kernel_rfl
theorem ok_trail_Trail_int_Undo : mFN Go.Proofs.Try.prog n_trail_Trail_int_Undo F_trail_Trail_int_Undo = true := by kernel_rfl
theorem ok_trail_Trail_string_Undo : mFN Go.Proofs.Try.prog n_trail_Trail_string_Undo F_trail_Trail_string_Undo = true := by kernel_rfl
theorem ok_trail_Trail_string_Changed : mFN Go.Proofs.Try.prog n_trail_Trail_string_Changed F_trail_Trail_string_Changed = true := by kernel_rfl
theorem ok_maps_DeleteFunc_map_int_int_int_int : mFN Go.Proofs.Try.prog n_maps_DeleteFunc_map_int_int_int_int F_maps_DeleteFunc_map_int_int_int_int = true := by kernel_rfl
theorem ok_maps_DeleteFunc_map_int_string_int_string : mFN Go.Proofs.Try.prog n_maps_DeleteFunc_map_int_string_int_string F_maps_DeleteFunc_map_int_string_int_string = true := by kernel_rfl
end Go.RR.M
