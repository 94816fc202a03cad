/- The code of the functions, by name, for the second reading; that it is theirs. -/
import Derived.Test.YtkbdlifjhcmgbaaProg
import Derived.KernelRfl
import Derived.Test.YtkbdlifjhcmgbaaR4
set_option linter.unusedVariables false
set_option linter.unusedSimpArgs false
set_option linter.unusedVariables false
namespace Go.RR.M
open Go Go.RR
set_option maxRecDepth 100000
def n_main_main : Nat := 0
def n_gosem_cut : Nat := 1
def n_gosem_cut_init : Nat := 2
def n_law05_TrailDoes : Nat := 3
def n_law05_TrailBack : Nat := 4
def n_law05_TrailTypes : Nat := 5
def n_law03_SpansTells : Nat := 6
def n_law03_SpansSets : Nat := 7
def n_law03_SpansOne : Nat := 8
def n_law05_awake : Nat := 9
def n_trail_New_int : Nat := 10
def n_ref05_New : Nat := 11
def n_law05_do : Nat := 12
def n_ref05_Trail_Set : Nat := 13
def n_ref05_Trail_Save : Nat := 14
def n_ref05_Trail_Undo : Nat := 15
def n_trail_Trail_int_Marks : Nat := 16
def n_trail_Trail_int_Len : Nat := 17
def n_ref02_Same : Nat := 18
def n_trail_Trail_int_Changed : Nat := 19
def n_ref05_Trail_Changed : Nat := 20
def n_trail_Trail_int_Get : Nat := 21
def n_trail_Trail_int_Stamp : Nat := 22
def n_trail_Trail_int_Save : Nat := 23
def n_trail_Trail_int_Undo : Nat := 24
def n_trail_New_string : Nat := 25
def n_trail_Trail_string_Set : Nat := 26
def n_trail_Trail_string_Save : Nat := 27
def n_trail_Trail_string_Undo : Nat := 28
def n_trail_Trail_string_Changed : Nat := 29
def n_trail_Trail_string_Get : Nat := 30
def n_trail_Trail_string_Stamp : Nat := 31
def n_law03_awake : Nat := 32
def n_ref03_Right : Nat := 33
def n_spans_At : Nat := 34
def n_spans_Right : Nat := 35
def n_spans_Size : Nat := 36
def n_ref03_Size : Nat := 37
def n_spans_Has : Nat := 38
def n_ref03_In : Nat := 39
def n_spans_Place : Nat := 40
def n_ref03_Place : Nat := 41
def n_spans_Of : Nat := 42
def n_ref03_Of : Nat := 43
def n_ref03_Same : Nat := 44
def n_spans_Union : Nat := 45
def n_spans_Meet : Nat := 46
def n_spans_Less : Nat := 47
def n_law03_few : Nat := 48
def n_ref03_Values : Nat := 49
def n_trail_Trail_int_Set : Nat := 50
def n_ref05_Trail_Put : Nat := 51
def n_trail_Trail_int_last : Nat := 52
def n_slices_Sort_sint_int : Nat := 53
def n_trail_Trail_int_there : Nat := 54
def n_trail_Trail_int_put : Nat := 55
def n_trail_Trail_int_carry : Nat := 56
def n_trail_Trail_string_there : Nat := 57
def n_trail_Trail_string_last : Nat := 58
def n_trail_Trail_string_put : Nat := 59
def n_trail_Trail_string_Marks : Nat := 60
def n_trail_Trail_string_carry : Nat := 61
def n_slices_Sorted_int : Nat := 62
def n_slices_Values_sint_int : Nat := 63
def n_spans_put : Nat := 64
def n_spans_parts : Nat := 65
def n_spans_Union_1 : Nat := 66
def n_spans_Meet_1 : Nat := 67
def n_spans_Less_1 : Nat := 68
def n_slices_pdqsortOrdered_int : Nat := 69
def n_math_bits_Len : Nat := 70
def n_maps_DeleteFunc_map_int_int_int_int : Nat := 71
def n_trail_Trail_int_carry_1 : Nat := 72
def n_maps_DeleteFunc_map_int_string_int_string : Nat := 73
def n_trail_Trail_string_carry_1 : Nat := 74
def n_slices_Collect_int : Nat := 75
def n_slices_Values_sint_int_1 : Nat := 76
def n_slices_Concat_sapi_Span_api_Span : Nat := 77
def n_slices_Compact_sint_int : Nat := 78
def n_slices_insertionSortOrdered_int : Nat := 79
def n_slices_heapSortOrdered_int : Nat := 80
def n_slices_breakPatternsOrdered_int : Nat := 81
def n_slices_choosePivotOrdered_int : Nat := 82
def n_slices_reverseRangeOrdered_int : Nat := 83
def n_slices_partialInsertionSortOrdered_int : Nat := 84
def n_cmp_Less_int : Nat := 85
def n_slices_partitionEqualOrdered_int : Nat := 86
def n_slices_partitionOrdered_int : Nat := 87
def n_math_bits_Len32 : Nat := 88
def n_math_bits_Len64 : Nat := 89
def n_slices_AppendSeq_sint_int : Nat := 90
def n_slices_Grow_sapi_Span_api_Span : Nat := 91
def n_slices_siftDownOrdered_int : Nat := 92
def n_slices_nextPowerOfTwo : Nat := 93
def n_slices_xorshift_Next : Nat := 94
def n_slices_medianAdjacentOrdered_int : Nat := 95
def n_slices_medianOrdered_int : Nat := 96
def n_cmp_isNaN_int : Nat := 97
def n_slices_order2Ordered_int : Nat := 98
def n_runtime_boundsError_Error : Nat := 99
def n_runtime_boundsError_RuntimeError : Nat := 100
def n_runtime_errorString_Error : Nat := 101
def n_runtime_errorString_RuntimeError : Nat := 102
def n_runtime_plainError_Error : Nat := 103
def n_runtime_plainError_RuntimeError : Nat := 104
def n_runtime_errorAddressString_Error : Nat := 105
def n_runtime_errorAddressString_RuntimeError : Nat := 106
def n_runtime_TypeAssertionError_Error : Nat := 107
def n_runtime_TypeAssertionError_RuntimeError : Nat := 108
def n_runtime_PanicNilError_Error : Nat := 109
def n_runtime_PanicNilError_RuntimeError : Nat := 110
def n_abi_Type_Align : Nat := 111
def n_maps_unhashableTypeError_Error : Nat := 112
def n_maps_unhashableTypeError_RuntimeError : Nat := 113
def n_api_Errno_Error : Nat := 114
def n_trail_Trail_string_Len : Nat := 115
def n_abi_Kind_String : Nat := 116
/-- stratagem/stratagemlaw03.SpansTells -/
def i_law03_SpansTells : IR := .seq (.rg [⟨(some 8), none, .mov (.c (.bool false))⟩] (some [0, 1, 2, 3]))
   (.seq (.seq (.rg [⟨(some 16), none, .call n_law03_awake []⟩,
    ⟨(some 17), none, .un .not (.t 16)⟩] (some [0, 1, 2, 3, 17]))
   (.cond (.t 17) (.seq (.rg [⟨(some 8), none, .mov (.c (.bool false))⟩] (some [8]))
   (.ret)) (.skip)))
   (.seq (.seq (.rg [⟨(some 18), none, .mov (.t 0)⟩,
    ⟨(some 19), none, .len (.t 18)⟩,
    ⟨(some 20), none, .bin .gtr (.t 19) (.c (.int .i64 60))⟩,
    ⟨(some 21), none, .mov (.t 20)⟩,
    ⟨(some 22), (some (21, false)), .mov (.t 3)⟩,
    ⟨(some 23), (some (21, false)), .len (.t 22)⟩,
    ⟨(some 24), (some (21, false)), .bin .gtr (.t 23) (.c (.int .i64 60))⟩,
    ⟨(some 25), none, .pick (.t 21) (.c (.bool true)) (.t 24)⟩] (some [0, 1, 2, 3, 25]))
   (.cond (.t 25) (.seq (.rg [⟨(some 8), none, .mov (.c (.bool true))⟩] (some [8]))
   (.ret)) (.skip)))
   (.seq (.rg [⟨(some 26), none, .mov (.t 0)⟩,
    ⟨(some 27), none, .call n_ref03_Right [(.t 26)]⟩,
    ⟨(some 9), none, .mov (.t 27)⟩] (some [0, 1, 2, 3, 9]))
   (.seq (.rg [⟨(some 29), none, .mov (.t 0)⟩,
    ⟨(some 30), none, .mov (.t 2)⟩,
    ⟨(some 31), none, .call n_spans_At [(.t 29), (.t 30)]⟩,
    ⟨(some 28), none, .mov (.t 31)⟩,
    ⟨(some 32), none, .ext (.t 28) 0⟩,
    ⟨(some 33), none, .ext (.t 28) 1⟩,
    ⟨(some 10), none, .mov (.t 32)⟩,
    ⟨(some 11), none, .mov (.t 33)⟩] (some [0, 1, 2, 3, 9, 10, 11]))
   (.seq (.seq (.rg [⟨(some 34), none, .mov (.t 0)⟩,
    ⟨(some 35), none, .call n_spans_Right [(.t 34)]⟩,
    ⟨(some 36), none, .mov (.t 9)⟩,
    ⟨(some 37), none, .eq true .bool (.t 35) (.t 36)⟩,
    ⟨(some 38), none, .mov (.t 37)⟩,
    ⟨(some 39), (some (38, false)), .mov (.t 0)⟩,
    ⟨(some 40), (some (38, false)), .call n_spans_Size [(.t 39)]⟩,
    ⟨(some 41), (some (38, false)), .mov (.t 0)⟩,
    ⟨(some 42), (some (38, false)), .call n_ref03_Size [(.t 41)]⟩,
    ⟨(some 43), (some (38, false)), .bin .neq (.t 40) (.t 42)⟩,
    ⟨(some 44), none, .pick (.t 38) (.c (.bool true)) (.t 43)⟩,
    ⟨(some 45), none, .mov (.t 44)⟩,
    ⟨(some 46), (some (45, false)), .mov (.t 0)⟩,
    ⟨(some 47), (some (45, false)), .mov (.t 1)⟩,
    ⟨(some 48), (some (45, false)), .call n_spans_Has [(.t 46), (.t 47)]⟩,
    ⟨(some 49), (some (45, false)), .mov (.t 9)⟩,
    ⟨(some 50), (some (45, false)), .mov (.t 49)⟩,
    ⟨(some 51), (some (50, true)), .mov (.t 0)⟩,
    ⟨(some 52), (some (50, true)), .mov (.t 1)⟩,
    ⟨(some 53), (some (50, true)), .call n_ref03_In [(.t 51), (.t 52)]⟩,
    ⟨(some 54), (some (45, false)), .pick (.t 50) (.t 53) (.c (.bool false))⟩,
    ⟨(some 55), (some (45, false)), .eq true .bool (.t 48) (.t 54)⟩,
    ⟨(some 56), none, .pick (.t 45) (.c (.bool true)) (.t 55)⟩,
    ⟨(some 57), none, .mov (.t 56)⟩,
    ⟨(some 58), (some (57, false)), .mov (.t 0)⟩,
    ⟨(some 59), (some (57, false)), .mov (.t 1)⟩,
    ⟨(some 60), (some (57, false)), .call n_spans_Place [(.t 58), (.t 59)]⟩,
    ⟨(some 61), (some (57, false)), .mov (.t 0)⟩,
    ⟨(some 62), (some (57, false)), .mov (.t 1)⟩,
    ⟨(some 63), (some (57, false)), .call n_ref03_Place [(.t 61), (.t 62)]⟩,
    ⟨(some 64), (some (57, false)), .bin .neq (.t 60) (.t 63)⟩,
    ⟨(some 65), none, .pick (.t 57) (.c (.bool true)) (.t 64)⟩,
    ⟨(some 66), none, .mov (.t 65)⟩,
    ⟨(some 67), (some (66, false)), .mov (.t 11)⟩,
    ⟨(some 68), (some (66, false)), .mov (.t 2)⟩,
    ⟨(some 69), (some (66, false)), .bin .geq (.t 68) (.c (.int .i64 0))⟩,
    ⟨(some 70), (some (66, false)), .mov (.t 69)⟩,
    ⟨(some 71), (some (70, true)), .mov (.t 2)⟩,
    ⟨(some 72), (some (70, true)), .mov (.t 0)⟩,
    ⟨(some 73), (some (70, true)), .call n_ref03_Size [(.t 72)]⟩,
    ⟨(some 74), (some (70, true)), .bin .lss (.t 71) (.t 73)⟩,
    ⟨(some 75), (some (66, false)), .pick (.t 70) (.t 74) (.c (.bool false))⟩,
    ⟨(some 76), (some (66, false)), .eq true .bool (.t 67) (.t 75)⟩,
    ⟨(some 77), none, .pick (.t 66) (.c (.bool true)) (.t 76)⟩,
    ⟨(some 78), none, .mov (.t 77)⟩,
    ⟨(some 79), (some (78, false)), .mov (.t 11)⟩,
    ⟨(some 80), (some (78, false)), .mov (.t 79)⟩,
    ⟨(some 81), (some (80, true)), .mov (.t 0)⟩,
    ⟨(some 82), (some (80, true)), .mov (.t 10)⟩,
    ⟨(some 83), (some (80, true)), .call n_ref03_Place [(.t 81), (.t 82)]⟩,
    ⟨(some 84), (some (80, true)), .mov (.t 2)⟩,
    ⟨(some 85), (some (80, true)), .bin .neq (.t 83) (.t 84)⟩,
    ⟨(some 86), (some (78, false)), .pick (.t 80) (.t 85) (.c (.bool false))⟩,
    ⟨(some 87), none, .pick (.t 78) (.c (.bool true)) (.t 86)⟩,
    ⟨(some 88), none, .mov (.t 87)⟩,
    ⟨(some 89), (some (88, false)), .mov (.t 11)⟩,
    ⟨(some 90), (some (88, false)), .un .not (.t 89)⟩,
    ⟨(some 91), (some (88, false)), .mov (.t 90)⟩,
    ⟨(some 92), (some (91, true)), .mov (.t 10)⟩,
    ⟨(some 93), (some (91, true)), .bin .neq (.t 92) (.c (.int .i64 0))⟩,
    ⟨(some 94), (some (88, false)), .pick (.t 91) (.t 93) (.c (.bool false))⟩,
    ⟨(some 95), none, .pick (.t 88) (.c (.bool true)) (.t 94)⟩] (some [3, 95]))
   (.cond (.t 95) (.seq (.rg [⟨(some 8), none, .mov (.c (.bool false))⟩] (some [8]))
   (.ret)) (.skip)))
   (.seq (.rg [⟨(some 97), none, .mov (.t 3)⟩,
    ⟨(some 98), none, .call n_spans_Of [(.t 97)]⟩,
    ⟨(some 96), none, .mov (.t 98)⟩,
    ⟨(some 99), none, .ext (.t 96) 0⟩,
    ⟨(some 100), none, .ext (.t 96) 1⟩,
    ⟨(some 12), none, .mov (.t 99)⟩,
    ⟨(some 13), none, .mov (.t 100)⟩] (some [3, 12, 13]))
   (.seq (.rg [⟨(some 102), none, .mov (.t 3)⟩,
    ⟨(some 103), none, .call n_ref03_Of [(.t 102)]⟩,
    ⟨(some 101), none, .mov (.t 103)⟩,
    ⟨(some 104), none, .ext (.t 101) 0⟩,
    ⟨(some 105), none, .ext (.t 101) 1⟩,
    ⟨(some 14), none, .mov (.t 104)⟩,
    ⟨(some 15), none, .mov (.t 105)⟩] (some [12, 13, 14, 15]))
   (.seq (.rg [⟨(some 106), none, .mov (.t 12)⟩,
    ⟨(some 107), none, .mov (.t 14)⟩,
    ⟨(some 108), none, .call n_ref03_Same [(.t 106), (.t 107)]⟩,
    ⟨(some 109), none, .mov (.t 108)⟩,
    ⟨(some 110), (some (109, true)), .mov (.t 13)⟩,
    ⟨(some 111), (some (109, true)), .mov (.t 15)⟩,
    ⟨(some 112), (some (109, true)), .bin .eql (.t 110) (.t 111)⟩,
    ⟨(some 113), none, .pick (.t 109) (.t 112) (.c (.bool false))⟩,
    ⟨(some 8), none, .mov (.t 113)⟩] (some [8]))
   (.ret)))))))))
def F_law03_SpansTells : F := ⟨i_law03_SpansTells, [(8, none)], false⟩
/-- stratagem/stratagemlaw03.SpansSets -/
def b_law03_SpansSets_0 : IR := .seq (.rg [⟨(some 76), none, .bin .lss (.t 75) (.t 74)⟩] (some [0, 1, 5, 6, 7, 73, 74, 75, 76]))
   (.seq (.cond (.t 76) (.skip) (.ext 0))
   (.seq (.blk 1 (.seq (.rg [⟨(some 77), none, .iad 1 (.t 73) (.t 75)⟩,
    ⟨(some 78), none, .ld false 1 (.t 77)⟩,
    ⟨(some 9), none, .mov (.t 78)⟩] (some [0, 1, 5, 6, 7, 9, 73, 74, 75]))
   (.seq (.rg [⟨(some 79), none, .mov (.t 0)⟩,
    ⟨(some 80), none, .mov (.t 9)⟩,
    ⟨(some 81), none, .call n_ref03_In [(.t 79), (.t 80)]⟩,
    ⟨(some 82), none, .mov (.t 1)⟩,
    ⟨(some 83), none, .mov (.t 9)⟩,
    ⟨(some 84), none, .call n_ref03_In [(.t 82), (.t 83)]⟩,
    ⟨(some 10), none, .mov (.t 81)⟩,
    ⟨(some 11), none, .mov (.t 84)⟩] (some [0, 1, 5, 6, 7, 9, 10, 11, 73, 74, 75]))
   (.seq (.rg [⟨(some 85), none, .mov (.t 5)⟩,
    ⟨(some 86), none, .mov (.t 9)⟩,
    ⟨(some 87), none, .call n_ref03_In [(.t 85), (.t 86)]⟩,
    ⟨(some 88), none, .un .not (.t 87)⟩,
    ⟨(some 89), none, .mov (.t 88)⟩,
    ⟨(some 90), (some (89, false)), .mov (.t 6)⟩,
    ⟨(some 91), (some (89, false)), .mov (.t 9)⟩,
    ⟨(some 92), (some (89, false)), .call n_ref03_In [(.t 90), (.t 91)]⟩,
    ⟨(some 93), (some (89, false)), .mov (.t 10)⟩,
    ⟨(some 94), (some (89, false)), .mov (.t 93)⟩,
    ⟨(some 95), (some (94, true)), .mov (.t 11)⟩,
    ⟨(some 96), (some (89, false)), .pick (.t 94) (.t 95) (.c (.bool false))⟩,
    ⟨(some 97), (some (89, false)), .eq true .bool (.t 92) (.t 96)⟩,
    ⟨(some 98), none, .pick (.t 89) (.c (.bool true)) (.t 97)⟩,
    ⟨(some 99), none, .mov (.t 98)⟩,
    ⟨(some 100), (some (99, false)), .mov (.t 7)⟩,
    ⟨(some 101), (some (99, false)), .mov (.t 9)⟩,
    ⟨(some 102), (some (99, false)), .call n_ref03_In [(.t 100), (.t 101)]⟩,
    ⟨(some 103), (some (99, false)), .mov (.t 10)⟩,
    ⟨(some 104), (some (99, false)), .mov (.t 103)⟩,
    ⟨(some 105), (some (104, true)), .mov (.t 11)⟩,
    ⟨(some 106), (some (104, true)), .un .not (.t 105)⟩,
    ⟨(some 107), (some (99, false)), .pick (.t 104) (.t 106) (.c (.bool false))⟩,
    ⟨(some 108), (some (99, false)), .eq true .bool (.t 102) (.t 107)⟩,
    ⟨(some 109), none, .pick (.t 99) (.c (.bool true)) (.t 108)⟩] (some [0, 1, 5, 6, 7, 73, 74, 75, 109]))
   (.cond (.t 109) (.seq (.rg [⟨(some 4), none, .mov (.c (.bool false))⟩] (some [4]))
   (.ret)) (.skip))))))
   (.rg [⟨(some 110), none, .bin .add (.t 75) (.c (.int .i64 1))⟩,
    ⟨(some 75), none, .mov (.t 110)⟩] (some [0, 1, 5, 6, 7, 73, 74, 75]))))
def i_law03_SpansSets_l0 : IR := .loop b_law03_SpansSets_0
theorem r_law03_SpansSets_0 {C : Cx} {Y : Yl} {fr : Fr} {h : List Ob} : evw C Y i_law03_SpansSets_l0 fr h = nxt (evw C Y b_law03_SpansSets_0 fr h) fun fr h => evw C Y i_law03_SpansSets_l0 fr h := w_loop
def i_law03_SpansSets : IR := .seq (.rg [⟨(some 4), none, .mov (.c (.bool false))⟩] (some [0, 1]))
   (.seq (.seq (.rg [⟨(some 12), none, .call n_law03_awake []⟩,
    ⟨(some 13), none, .un .not (.t 12)⟩] (some [0, 1, 13]))
   (.cond (.t 13) (.seq (.rg [⟨(some 4), none, .mov (.c (.bool false))⟩] (some [4]))
   (.ret)) (.skip)))
   (.seq (.seq (.rg [⟨(some 14), none, .mov (.t 0)⟩,
    ⟨(some 15), none, .len (.t 14)⟩,
    ⟨(some 16), none, .bin .gtr (.t 15) (.c (.int .i64 60))⟩,
    ⟨(some 17), none, .mov (.t 16)⟩,
    ⟨(some 18), (some (17, false)), .mov (.t 1)⟩,
    ⟨(some 19), (some (17, false)), .len (.t 18)⟩,
    ⟨(some 20), (some (17, false)), .bin .gtr (.t 19) (.c (.int .i64 60))⟩,
    ⟨(some 21), none, .pick (.t 17) (.c (.bool true)) (.t 20)⟩] (some [0, 1, 21]))
   (.cond (.t 21) (.seq (.rg [⟨(some 4), none, .mov (.c (.bool true))⟩] (some [4]))
   (.ret)) (.skip)))
   (.seq (.rg [⟨(some 22), none, .mov (.t 0)⟩,
    ⟨(some 23), none, .mov (.t 1)⟩,
    ⟨(some 24), none, .call n_spans_Union [(.t 22), (.t 23)]⟩,
    ⟨(some 25), none, .mov (.t 0)⟩,
    ⟨(some 26), none, .mov (.t 1)⟩,
    ⟨(some 27), none, .call n_spans_Meet [(.t 25), (.t 26)]⟩,
    ⟨(some 28), none, .mov (.t 0)⟩,
    ⟨(some 29), none, .mov (.t 1)⟩,
    ⟨(some 30), none, .call n_spans_Less [(.t 28), (.t 29)]⟩,
    ⟨(some 5), none, .mov (.t 24)⟩,
    ⟨(some 6), none, .mov (.t 27)⟩,
    ⟨(some 7), none, .mov (.t 30)⟩] (some [0, 1, 5, 6, 7]))
   (.seq (.seq (.rg [⟨(some 31), none, .mov (.t 0)⟩,
    ⟨(some 32), none, .call n_ref03_Right [(.t 31)]⟩,
    ⟨(some 33), none, .un .not (.t 32)⟩,
    ⟨(some 34), none, .mov (.t 33)⟩,
    ⟨(some 35), (some (34, false)), .mov (.t 1)⟩,
    ⟨(some 36), (some (34, false)), .call n_ref03_Right [(.t 35)]⟩,
    ⟨(some 37), (some (34, false)), .un .not (.t 36)⟩,
    ⟨(some 38), none, .pick (.t 34) (.c (.bool true)) (.t 37)⟩] (some [0, 1, 5, 6, 7, 38]))
   (.cond (.t 38) (.seq (.rg [⟨(some 39), none, .mov (.t 5)⟩,
    ⟨(some 40), none, .len (.t 39)⟩,
    ⟨(some 41), none, .mov (.t 6)⟩,
    ⟨(some 42), none, .len (.t 41)⟩,
    ⟨(some 43), none, .bin .add (.t 40) (.t 42)⟩,
    ⟨(some 44), none, .mov (.t 7)⟩,
    ⟨(some 45), none, .len (.t 44)⟩,
    ⟨(some 46), none, .bin .add (.t 43) (.t 45)⟩,
    ⟨(some 47), none, .bin .eql (.t 46) (.c (.int .i64 0))⟩,
    ⟨(some 4), none, .mov (.t 47)⟩] (some [4]))
   (.ret)) (.skip)))
   (.seq (.seq (.rg [⟨(some 48), none, .mov (.t 0)⟩,
    ⟨(some 49), none, .call n_law03_few [(.t 48)]⟩,
    ⟨(some 50), none, .un .not (.t 49)⟩,
    ⟨(some 51), none, .mov (.t 50)⟩,
    ⟨(some 52), (some (51, false)), .mov (.t 1)⟩,
    ⟨(some 53), (some (51, false)), .call n_law03_few [(.t 52)]⟩,
    ⟨(some 54), (some (51, false)), .un .not (.t 53)⟩,
    ⟨(some 55), none, .pick (.t 51) (.c (.bool true)) (.t 54)⟩] (some [0, 1, 5, 6, 7, 55]))
   (.cond (.t 55) (.seq (.rg [⟨(some 4), none, .mov (.c (.bool true))⟩] (some [4]))
   (.ret)) (.skip)))
   (.seq (.seq (.rg [⟨(some 56), none, .mov (.t 5)⟩,
    ⟨(some 57), none, .call n_ref03_Right [(.t 56)]⟩,
    ⟨(some 58), none, .un .not (.t 57)⟩,
    ⟨(some 59), none, .mov (.t 58)⟩,
    ⟨(some 60), (some (59, false)), .mov (.t 6)⟩,
    ⟨(some 61), (some (59, false)), .call n_ref03_Right [(.t 60)]⟩,
    ⟨(some 62), (some (59, false)), .un .not (.t 61)⟩,
    ⟨(some 63), none, .pick (.t 59) (.c (.bool true)) (.t 62)⟩,
    ⟨(some 64), none, .mov (.t 63)⟩,
    ⟨(some 65), (some (64, false)), .mov (.t 7)⟩,
    ⟨(some 66), (some (64, false)), .call n_ref03_Right [(.t 65)]⟩,
    ⟨(some 67), (some (64, false)), .un .not (.t 66)⟩,
    ⟨(some 68), none, .pick (.t 64) (.c (.bool true)) (.t 67)⟩] (some [0, 1, 5, 6, 7, 68]))
   (.cond (.t 68) (.seq (.rg [⟨(some 4), none, .mov (.c (.bool false))⟩] (some [4]))
   (.ret)) (.skip)))
   (.seq (.seq (.rg [⟨(some 69), none, .mov (.t 0)⟩,
    ⟨(some 70), none, .call n_ref03_Values [(.t 69)]⟩,
    ⟨(some 71), none, .mov (.t 1)⟩,
    ⟨(some 72), none, .call n_ref03_Values [(.t 71)]⟩,
    ⟨(some 73), none, .app 1 8 (.t 70) (.t 72)⟩,
    ⟨(some 74), none, .len (.t 73)⟩,
    ⟨(some 75), none, .mov (.c (.int .i64 0))⟩] (some [0, 1, 5, 6, 7, 73, 74, 75]))
   (.blk 0 (i_law03_SpansSets_l0)))
   (.seq (.rg [⟨(some 111), none, .mov (.t 5)⟩,
    ⟨(some 112), none, .call n_ref03_Size [(.t 111)]⟩,
    ⟨(some 113), none, .mov (.t 0)⟩,
    ⟨(some 114), none, .call n_ref03_Size [(.t 113)]⟩,
    ⟨(some 115), none, .mov (.t 1)⟩,
    ⟨(some 116), none, .call n_ref03_Size [(.t 115)]⟩,
    ⟨(some 117), none, .bin .add (.t 114) (.t 116)⟩,
    ⟨(some 118), none, .mov (.t 6)⟩,
    ⟨(some 119), none, .call n_ref03_Size [(.t 118)]⟩,
    ⟨(some 120), none, .bin .sub (.t 117) (.t 119)⟩,
    ⟨(some 121), none, .bin .eql (.t 112) (.t 120)⟩,
    ⟨(some 122), none, .mov (.t 121)⟩,
    ⟨(some 123), (some (122, true)), .mov (.t 7)⟩,
    ⟨(some 124), (some (122, true)), .call n_ref03_Size [(.t 123)]⟩,
    ⟨(some 125), (some (122, true)), .mov (.t 0)⟩,
    ⟨(some 126), (some (122, true)), .call n_ref03_Size [(.t 125)]⟩,
    ⟨(some 127), (some (122, true)), .mov (.t 6)⟩,
    ⟨(some 128), (some (122, true)), .call n_ref03_Size [(.t 127)]⟩,
    ⟨(some 129), (some (122, true)), .bin .sub (.t 126) (.t 128)⟩,
    ⟨(some 130), (some (122, true)), .bin .eql (.t 124) (.t 129)⟩,
    ⟨(some 131), none, .pick (.t 122) (.t 130) (.c (.bool false))⟩,
    ⟨(some 4), none, .mov (.t 131)⟩] (some [4]))
   (.ret)))))))))
def F_law03_SpansSets : F := ⟨i_law03_SpansSets, [(4, none)], false⟩
/-- stratagem/stratagemlaw03.SpansOne -/
def b_law03_SpansOne_0 : IR := .seq (.rg [⟨(some 64), none, .bin .lss (.t 63) (.t 62)⟩] (some [0, 61, 62, 63, 64]))
   (.seq (.cond (.t 64) (.skip) (.ext 0))
   (.seq (.blk 1 (.seq (.rg [⟨(some 65), none, .mov (.t 63)⟩,
    ⟨(some 66), none, .iad 1 (.t 61) (.t 63)⟩,
    ⟨(some 67), none, .ld false 1 (.t 66)⟩,
    ⟨(some 10), none, .mov (.t 65)⟩,
    ⟨(some 11), none, .mov (.t 67)⟩] (some [0, 10, 11, 61, 62, 63]))
   (.seq (.rg [⟨(some 69), none, .mov (.t 0)⟩,
    ⟨(some 70), none, .mov (.t 10)⟩,
    ⟨(some 71), none, .call n_spans_At [(.t 69), (.t 70)]⟩,
    ⟨(some 68), none, .mov (.t 71)⟩,
    ⟨(some 72), none, .ext (.t 68) 0⟩,
    ⟨(some 73), none, .ext (.t 68) 1⟩,
    ⟨(some 12), none, .mov (.t 72)⟩,
    ⟨(some 13), none, .mov (.t 73)⟩] (some [0, 10, 11, 12, 13, 61, 62, 63]))
   (.seq (.rg [⟨(some 74), none, .mov (.t 12)⟩,
    ⟨(some 75), none, .mov (.t 11)⟩,
    ⟨(some 76), none, .bin .neq (.t 74) (.t 75)⟩,
    ⟨(some 77), none, .mov (.t 76)⟩,
    ⟨(some 78), (some (77, false)), .mov (.t 13)⟩,
    ⟨(some 79), (some (77, false)), .un .not (.t 78)⟩,
    ⟨(some 80), none, .pick (.t 77) (.c (.bool true)) (.t 79)⟩,
    ⟨(some 81), none, .mov (.t 80)⟩,
    ⟨(some 82), (some (81, false)), .mov (.t 0)⟩,
    ⟨(some 83), (some (81, false)), .mov (.t 11)⟩,
    ⟨(some 84), (some (81, false)), .call n_spans_Place [(.t 82), (.t 83)]⟩,
    ⟨(some 85), (some (81, false)), .mov (.t 10)⟩,
    ⟨(some 86), (some (81, false)), .bin .neq (.t 84) (.t 85)⟩,
    ⟨(some 87), none, .pick (.t 81) (.c (.bool true)) (.t 86)⟩] (some [0, 61, 62, 63, 87]))
   (.cond (.t 87) (.seq (.rg [⟨(some 4), none, .mov (.c (.bool false))⟩] (some [4]))
   (.ret)) (.skip))))))
   (.rg [⟨(some 88), none, .bin .add (.t 63) (.c (.int .i64 1))⟩,
    ⟨(some 63), none, .mov (.t 88)⟩] (some [0, 61, 62, 63]))))
def i_law03_SpansOne_l0 : IR := .loop b_law03_SpansOne_0
theorem r_law03_SpansOne_0 {C : Cx} {Y : Yl} {fr : Fr} {h : List Ob} : evw C Y i_law03_SpansOne_l0 fr h = nxt (evw C Y b_law03_SpansOne_0 fr h) fun fr h => evw C Y i_law03_SpansOne_l0 fr h := w_loop
def i_law03_SpansOne : IR := .seq (.rg [⟨(some 4), none, .mov (.c (.bool false))⟩] (some [0, 1]))
   (.seq (.seq (.rg [⟨(some 14), none, .call n_law03_awake []⟩,
    ⟨(some 15), none, .un .not (.t 14)⟩] (some [0, 1, 15]))
   (.cond (.t 15) (.seq (.rg [⟨(some 4), none, .mov (.c (.bool false))⟩] (some [4]))
   (.ret)) (.skip)))
   (.seq (.seq (.rg [⟨(some 16), none, .mov (.t 0)⟩,
    ⟨(some 17), none, .len (.t 16)⟩,
    ⟨(some 18), none, .bin .gtr (.t 17) (.c (.int .i64 60))⟩,
    ⟨(some 19), none, .mov (.t 18)⟩,
    ⟨(some 20), (some (19, false)), .mov (.t 0)⟩,
    ⟨(some 21), (some (19, false)), .call n_law03_few [(.t 20)]⟩,
    ⟨(some 22), (some (19, false)), .un .not (.t 21)⟩,
    ⟨(some 23), none, .pick (.t 19) (.c (.bool true)) (.t 22)⟩] (some [0, 1, 23]))
   (.cond (.t 23) (.seq (.rg [⟨(some 4), none, .mov (.c (.bool true))⟩] (some [4]))
   (.ret)) (.skip)))
   (.seq (.rg [⟨(some 24), none, .mov (.t 0)⟩,
    ⟨(some 25), none, .call n_ref03_Values [(.t 24)]⟩,
    ⟨(some 5), none, .mov (.t 25)⟩] (some [0, 1, 5]))
   (.seq (.rg [⟨(some 6), none, .mov (.c (.int .i64 0))⟩] (some [0, 1, 5, 6]))
   (.seq (.seq (.rg [⟨(some 26), none, .mov (.t 5)⟩,
    ⟨(some 27), none, .len (.t 26)⟩,
    ⟨(some 28), none, .bin .gtr (.t 27) (.c (.int .i64 0))⟩] (some [0, 1, 5, 6, 28]))
   (.cond (.t 28) (.rg [⟨(some 29), none, .mov (.t 1)⟩,
    ⟨(some 30), none, .conv .i64 (.t 29)⟩,
    ⟨(some 31), none, .mov (.t 5)⟩,
    ⟨(some 32), none, .len (.t 31)⟩,
    ⟨(some 33), none, .bin .rem (.t 30) (.t 32)⟩,
    ⟨(some 6), none, .mov (.t 33)⟩] (some [0, 5, 6])) (.skip)))
   (.seq (.rg [⟨(some 34), none, .bsl (.int .i64 0) 0 []⟩,
    ⟨(some 35), none, .mov (.t 5)⟩,
    ⟨(some 36), none, .mov (.t 6)⟩,
    ⟨(some 37), none, .sll 1 (.t 35) (some (.t 36)) none none⟩,
    ⟨(some 38), none, .app 1 8 (.t 34) (.t 37)⟩,
    ⟨(some 39), none, .mov (.t 5)⟩,
    ⟨(some 40), none, .app 1 8 (.t 38) (.t 39)⟩,
    ⟨(some 7), none, .fz (.t 40)⟩] (some [0, 5, 7]))
   (.seq (.rg [⟨(some 42), none, .mov (.t 7)⟩,
    ⟨(some 43), none, .call n_spans_Of [(.t 42)]⟩,
    ⟨(some 41), none, .mov (.t 43)⟩,
    ⟨(some 44), none, .ext (.t 41) 0⟩,
    ⟨(some 45), none, .ext (.t 41) 1⟩,
    ⟨(some 8), none, .mov (.t 44)⟩,
    ⟨(some 9), none, .mov (.t 45)⟩] (some [0, 5, 8, 9]))
   (.seq (.seq (.rg [⟨(some 46), none, .mov (.t 9)⟩,
    ⟨(some 47), none, .bin .neq (.t 46) (.c (.int .i64 0))⟩,
    ⟨(some 48), none, .mov (.t 47)⟩,
    ⟨(some 49), (some (48, false)), .mov (.t 8)⟩,
    ⟨(some 50), (some (48, false)), .mov (.t 0)⟩,
    ⟨(some 51), (some (48, false)), .call n_ref03_Same [(.t 49), (.t 50)]⟩,
    ⟨(some 52), (some (48, false)), .un .not (.t 51)⟩,
    ⟨(some 53), none, .pick (.t 48) (.c (.bool true)) (.t 52)⟩,
    ⟨(some 54), none, .mov (.t 53)⟩,
    ⟨(some 55), (some (54, false)), .mov (.t 0)⟩,
    ⟨(some 56), (some (54, false)), .call n_spans_Size [(.t 55)]⟩,
    ⟨(some 57), (some (54, false)), .mov (.t 5)⟩,
    ⟨(some 58), (some (54, false)), .len (.t 57)⟩,
    ⟨(some 59), (some (54, false)), .bin .neq (.t 56) (.t 58)⟩,
    ⟨(some 60), none, .pick (.t 54) (.c (.bool true)) (.t 59)⟩] (some [0, 5, 60]))
   (.cond (.t 60) (.seq (.rg [⟨(some 4), none, .mov (.c (.bool false))⟩] (some [4]))
   (.ret)) (.skip)))
   (.seq (.seq (.rg [⟨(some 61), none, .mov (.t 5)⟩,
    ⟨(some 62), none, .len (.t 61)⟩,
    ⟨(some 63), none, .mov (.c (.int .i64 0))⟩] (some [0, 61, 62, 63]))
   (.blk 0 (i_law03_SpansOne_l0)))
   (.seq (.rg [⟨(some 4), none, .mov (.c (.bool true))⟩] (some [4]))
   (.ret)))))))))))
def F_law03_SpansOne : F := ⟨i_law03_SpansOne, [(4, none)], false⟩
/-- stratagem/stratagemlaw03.awake -/
def i_law03_awake : IR := .seq (.rg [⟨(some 0), none, .mov (.c (.bool false))⟩] (some []))
   (.seq (.rg [⟨(some 10), none, .bsf (.int .i64 0) 4 [(0, (.c (.int .i64 3))), (1, (.c (.int .i64 1))), (2, (.c (.int .i64 2))), (3, (.c (.int .i64 7)))]⟩,
    ⟨(some 11), none, .call n_spans_Of [(.t 10)]⟩,
    ⟨(some 9), none, .mov (.t 11)⟩,
    ⟨(some 12), none, .ext (.t 9) 0⟩,
    ⟨(some 13), none, .ext (.t 9) 1⟩,
    ⟨(some 1), none, .mov (.t 12)⟩,
    ⟨(some 2), none, .mov (.t 13)⟩] (some [1, 2]))
   (.seq (.rg [⟨(some 15), none, .bsf (.int .i64 0) 1 [(0, (.c (.int .i64 1048577)))]⟩,
    ⟨(some 16), none, .call n_spans_Of [(.t 15)]⟩,
    ⟨(some 14), none, .mov (.t 16)⟩,
    ⟨(some 17), none, .ext (.t 14) 0⟩,
    ⟨(some 18), none, .ext (.t 14) 1⟩,
    ⟨(some 3), none, .mov (.t 17)⟩,
    ⟨(some 4), none, .mov (.t 18)⟩] (some [1, 2, 4]))
   (.seq (.rg [⟨(some 20), none, .mov (.t 1)⟩,
    ⟨(some 21), none, .call n_spans_At [(.t 20), (.c (.int .i64 3))]⟩,
    ⟨(some 19), none, .mov (.t 21)⟩,
    ⟨(some 22), none, .ext (.t 19) 0⟩,
    ⟨(some 23), none, .ext (.t 19) 1⟩,
    ⟨(some 5), none, .mov (.t 22)⟩,
    ⟨(some 6), none, .mov (.t 23)⟩] (some [1, 2, 4, 5, 6]))
   (.seq (.rg [⟨(some 25), none, .mov (.t 1)⟩,
    ⟨(some 26), none, .call n_spans_At [(.t 25), (.c (.int .i64 4))]⟩,
    ⟨(some 24), none, .mov (.t 26)⟩,
    ⟨(some 27), none, .ext (.t 24) 0⟩,
    ⟨(some 28), none, .ext (.t 24) 1⟩,
    ⟨(some 7), none, .mov (.t 27)⟩,
    ⟨(some 8), none, .mov (.t 28)⟩] (some [1, 2, 4, 5, 6, 8]))
   (.seq (.rg [⟨(some 29), none, .mov (.t 1)⟩,
    ⟨(some 30), none, .bld [.int .i64 0, .int .i64 0] [(0, 1, (.c (.int .i64 1))), (1, 1, (.c (.int .i64 3)))]⟩,
    ⟨(some 31), none, .bld [.int .i64 0, .int .i64 0] [(0, 1, (.c (.int .i64 7))), (1, 1, (.c (.int .i64 7)))]⟩,
    ⟨(some 32), none, .bsf (.agg [.int .i64 0, .int .i64 0]) 2 [(0, (.t 30)), (1, (.t 31))]⟩,
    ⟨(some 33), none, .call n_ref03_Same [(.t 29), (.t 32)]⟩,
    ⟨(some 34), none, .mov (.t 33)⟩,
    ⟨(some 35), (some (34, true)), .mov (.t 2)⟩,
    ⟨(some 36), (some (34, true)), .bin .eql (.t 35) (.c (.int .i64 0))⟩,
    ⟨(some 37), none, .pick (.t 34) (.t 36) (.c (.bool false))⟩,
    ⟨(some 38), none, .mov (.t 37)⟩,
    ⟨(some 39), (some (38, true)), .mov (.t 4)⟩,
    ⟨(some 40), (some (38, true)), .bin .eql (.t 39) (.c (.int .i64 1))⟩,
    ⟨(some 41), none, .pick (.t 38) (.t 40) (.c (.bool false))⟩,
    ⟨(some 42), none, .mov (.t 41)⟩,
    ⟨(some 43), (some (42, true)), .mov (.t 5)⟩,
    ⟨(some 44), (some (42, true)), .bin .eql (.t 43) (.c (.int .i64 7))⟩,
    ⟨(some 45), none, .pick (.t 42) (.t 44) (.c (.bool false))⟩,
    ⟨(some 46), none, .mov (.t 45)⟩,
    ⟨(some 47), (some (46, true)), .mov (.t 6)⟩,
    ⟨(some 48), none, .pick (.t 46) (.t 47) (.c (.bool false))⟩,
    ⟨(some 49), none, .mov (.t 48)⟩,
    ⟨(some 50), (some (49, true)), .mov (.t 8)⟩,
    ⟨(some 51), (some (49, true)), .un .not (.t 50)⟩,
    ⟨(some 52), none, .pick (.t 49) (.t 51) (.c (.bool false))⟩,
    ⟨(some 53), none, .mov (.t 52)⟩,
    ⟨(some 54), (some (53, true)), .mov (.t 1)⟩,
    ⟨(some 55), (some (53, true)), .call n_spans_Right [(.t 54)]⟩,
    ⟨(some 56), none, .pick (.t 53) (.t 55) (.c (.bool false))⟩,
    ⟨(some 57), none, .mov (.t 56)⟩,
    ⟨(some 58), (some (57, true)), .bld [.int .i64 0, .int .i64 0] [(0, 1, (.c (.int .i64 1))), (1, 1, (.c (.int .i64 2)))]⟩,
    ⟨(some 59), (some (57, true)), .bld [.int .i64 0, .int .i64 0] [(0, 1, (.c (.int .i64 3))), (1, 1, (.c (.int .i64 3)))]⟩,
    ⟨(some 60), (some (57, true)), .bsf (.agg [.int .i64 0, .int .i64 0]) 2 [(0, (.t 58)), (1, (.t 59))]⟩,
    ⟨(some 61), (some (57, true)), .call n_spans_Right [(.t 60)]⟩,
    ⟨(some 62), (some (57, true)), .un .not (.t 61)⟩,
    ⟨(some 63), none, .pick (.t 57) (.t 62) (.c (.bool false))⟩,
    ⟨(some 64), none, .mov (.t 63)⟩,
    ⟨(some 65), (some (64, true)), .mov (.t 1)⟩,
    ⟨(some 66), (some (64, true)), .call n_spans_Size [(.t 65)]⟩,
    ⟨(some 67), (some (64, true)), .bin .eql (.t 66) (.c (.int .i64 4))⟩,
    ⟨(some 68), none, .pick (.t 64) (.t 67) (.c (.bool false))⟩,
    ⟨(some 69), none, .mov (.t 68)⟩,
    ⟨(some 70), (some (69, true)), .mov (.t 1)⟩,
    ⟨(some 71), (some (69, true)), .call n_spans_Has [(.t 70), (.c (.int .i64 2))]⟩,
    ⟨(some 72), none, .pick (.t 69) (.t 71) (.c (.bool false))⟩,
    ⟨(some 73), none, .mov (.t 72)⟩,
    ⟨(some 74), (some (73, true)), .mov (.t 1)⟩,
    ⟨(some 75), (some (73, true)), .call n_spans_Has [(.t 74), (.c (.int .i64 4))]⟩,
    ⟨(some 76), (some (73, true)), .un .not (.t 75)⟩,
    ⟨(some 77), none, .pick (.t 73) (.t 76) (.c (.bool false))⟩,
    ⟨(some 78), none, .mov (.t 77)⟩,
    ⟨(some 79), (some (78, true)), .mov (.t 1)⟩,
    ⟨(some 80), (some (78, true)), .call n_spans_Place [(.t 79), (.c (.int .i64 7))]⟩,
    ⟨(some 81), (some (78, true)), .bin .eql (.t 80) (.c (.int .i64 3))⟩,
    ⟨(some 82), none, .pick (.t 78) (.t 81) (.c (.bool false))⟩,
    ⟨(some 83), none, .mov (.t 82)⟩,
    ⟨(some 84), (some (83, true)), .mov (.t 1)⟩,
    ⟨(some 85), (some (83, true)), .call n_spans_Place [(.t 84), (.c (.int .i64 5))]⟩,
    ⟨(some 86), (some (83, true)), .bin .eql (.t 85) (.c (.int .i64 (-1)))⟩,
    ⟨(some 87), none, .pick (.t 83) (.t 86) (.c (.bool false))⟩,
    ⟨(some 88), none, .mov (.t 87)⟩,
    ⟨(some 89), (some (88, true)), .bld [.int .i64 0, .int .i64 0] [(0, 1, (.c (.int .i64 1))), (1, 1, (.c (.int .i64 9)))]⟩,
    ⟨(some 90), (some (88, true)), .bsf (.agg [.int .i64 0, .int .i64 0]) 1 [(0, (.t 89))]⟩,
    ⟨(some 91), (some (88, true)), .bld [.int .i64 0, .int .i64 0] [(0, 1, (.c (.int .i64 3))), (1, 1, (.c (.int .i64 4)))]⟩,
    ⟨(some 92), (some (88, true)), .bsf (.agg [.int .i64 0, .int .i64 0]) 1 [(0, (.t 91))]⟩,
    ⟨(some 93), (some (88, true)), .call n_spans_Less [(.t 90), (.t 92)]⟩,
    ⟨(some 94), (some (88, true)), .bld [.int .i64 0, .int .i64 0] [(0, 1, (.c (.int .i64 1))), (1, 1, (.c (.int .i64 2)))]⟩,
    ⟨(some 95), (some (88, true)), .bld [.int .i64 0, .int .i64 0] [(0, 1, (.c (.int .i64 5))), (1, 1, (.c (.int .i64 9)))]⟩,
    ⟨(some 96), (some (88, true)), .bsf (.agg [.int .i64 0, .int .i64 0]) 2 [(0, (.t 94)), (1, (.t 95))]⟩,
    ⟨(some 97), (some (88, true)), .call n_ref03_Same [(.t 93), (.t 96)]⟩,
    ⟨(some 98), none, .pick (.t 88) (.t 97) (.c (.bool false))⟩,
    ⟨(some 99), none, .mov (.t 98)⟩,
    ⟨(some 100), (some (99, true)), .mov (.t 1)⟩,
    ⟨(some 101), (some (99, true)), .bld [.int .i64 0, .int .i64 0] [(0, 1, (.c (.int .i64 4))), (1, 1, (.c (.int .i64 6)))]⟩,
    ⟨(some 102), (some (99, true)), .bsf (.agg [.int .i64 0, .int .i64 0]) 1 [(0, (.t 101))]⟩,
    ⟨(some 103), (some (99, true)), .call n_spans_Union [(.t 100), (.t 102)]⟩,
    ⟨(some 104), (some (99, true)), .bld [.int .i64 0, .int .i64 0] [(0, 1, (.c (.int .i64 1))), (1, 1, (.c (.int .i64 7)))]⟩,
    ⟨(some 105), (some (99, true)), .bsf (.agg [.int .i64 0, .int .i64 0]) 1 [(0, (.t 104))]⟩,
    ⟨(some 106), (some (99, true)), .call n_ref03_Same [(.t 103), (.t 105)]⟩,
    ⟨(some 107), none, .pick (.t 99) (.t 106) (.c (.bool false))⟩,
    ⟨(some 108), none, .mov (.t 107)⟩,
    ⟨(some 109), (some (108, true)), .mov (.t 1)⟩,
    ⟨(some 110), (some (108, true)), .bld [.int .i64 0, .int .i64 0] [(0, 1, (.c (.int .i64 3))), (1, 1, (.c (.int .i64 9)))]⟩,
    ⟨(some 111), (some (108, true)), .bsf (.agg [.int .i64 0, .int .i64 0]) 1 [(0, (.t 110))]⟩,
    ⟨(some 112), (some (108, true)), .call n_spans_Meet [(.t 109), (.t 111)]⟩,
    ⟨(some 113), (some (108, true)), .bld [.int .i64 0, .int .i64 0] [(0, 1, (.c (.int .i64 3))), (1, 1, (.c (.int .i64 3)))]⟩,
    ⟨(some 114), (some (108, true)), .bld [.int .i64 0, .int .i64 0] [(0, 1, (.c (.int .i64 7))), (1, 1, (.c (.int .i64 7)))]⟩,
    ⟨(some 115), (some (108, true)), .bsf (.agg [.int .i64 0, .int .i64 0]) 2 [(0, (.t 113)), (1, (.t 114))]⟩,
    ⟨(some 116), (some (108, true)), .call n_ref03_Same [(.t 112), (.t 115)]⟩,
    ⟨(some 117), none, .pick (.t 108) (.t 116) (.c (.bool false))⟩,
    ⟨(some 0), none, .mov (.t 117)⟩] (some [0]))
   (.ret))))))
def F_law03_awake : F := ⟨i_law03_awake, [(0, none)], false⟩
/-- stratagem/stratagemref03.Right -/
def b_ref03_Right_0 : IR := .seq (.seq (.rg [⟨(some 4), none, .mov (.t 3)⟩,
    ⟨(some 5), none, .mov (.t 0)⟩,
    ⟨(some 6), none, .len (.t 5)⟩,
    ⟨(some 7), none, .bin .lss (.t 4) (.t 6)⟩] (some [0, 3, 7]))
   (.cond (.t 7) (.skip) (.ext 0)))
   (.seq (.blk 1 (.seq (.seq (.dq [(⟨(some 10), none, .mov (.t 0)⟩, []),
    (⟨(some 11), none, .mov (.t 3)⟩, []),
    (⟨(some 12), none, .iad 2 (.t 10) (.t 11)⟩, [0, 1]),
    (⟨(some 13), none, .fad 0 (.t 12)⟩, [0, 1, 2]),
    (⟨(some 14), none, .ld false 1 (.t 13)⟩, [0, 1, 2, 3]),
    (⟨(some 15), none, .bin .lss (.t 14) (.c (.int .i64 (-1048576)))⟩, [0, 1, 2, 3, 4]),
    (⟨(some 16), none, .mov (.t 15)⟩, [0, 1, 2, 3, 4, 5]),
    (⟨(some 17), (some (16, false)), .mov (.t 0)⟩, [0, 1, 2, 3, 4, 5, 6]),
    (⟨(some 18), (some (16, false)), .mov (.t 3)⟩, [0, 1, 2, 3, 4, 5, 6]),
    (⟨(some 19), (some (16, false)), .iad 2 (.t 17) (.t 18)⟩, [0, 1, 2, 3, 4, 5, 6, 7, 8]),
    (⟨(some 20), (some (16, false)), .fad 1 (.t 19)⟩, [0, 1, 2, 3, 4, 5, 6, 7, 8, 9]),
    (⟨(some 21), (some (16, false)), .ld false 1 (.t 20)⟩, [0, 1, 2, 3, 4, 5, 6, 7, 8, 9, 10]),
    (⟨(some 22), (some (16, false)), .bin .gtr (.t 21) (.c (.int .i64 1048576))⟩, [0, 1, 2, 3, 4, 5, 6, 7, 8, 9, 10, 11]),
    (⟨(some 23), none, .pick (.t 16) (.c (.bool true)) (.t 22)⟩, [0, 1, 2, 3, 4, 5, 6, 7, 8, 9, 10, 11, 12]),
    (⟨(some 24), none, .mov (.t 23)⟩, [0, 1, 2, 3, 4, 5, 6, 7, 8, 9, 10, 11, 12, 13]),
    (⟨(some 25), (some (24, false)), .mov (.t 0)⟩, [0, 1, 2, 3, 4, 5, 6, 7, 8, 9, 10, 11, 12, 13, 14]),
    (⟨(some 26), (some (24, false)), .mov (.t 3)⟩, [0, 1, 2, 3, 4, 5, 6, 7, 8, 9, 10, 11, 12, 13, 14]),
    (⟨(some 27), (some (24, false)), .iad 2 (.t 25) (.t 26)⟩, [0, 1, 2, 3, 4, 5, 6, 7, 8, 9, 10, 11, 12, 13, 14, 15, 16]),
    (⟨(some 28), (some (24, false)), .fad 0 (.t 27)⟩, [0, 1, 2, 3, 4, 5, 6, 7, 8, 9, 10, 11, 12, 13, 14, 15, 16, 17]),
    (⟨(some 29), (some (24, false)), .ld false 1 (.t 28)⟩, [0, 1, 2, 3, 4, 5, 6, 7, 8, 9, 10, 11, 12, 13, 14, 15, 16, 17, 18]),
    (⟨(some 30), (some (24, false)), .mov (.t 0)⟩, [0, 1, 2, 3, 4, 5, 6, 7, 8, 9, 10, 11, 12, 13, 14]),
    (⟨(some 31), (some (24, false)), .mov (.t 3)⟩, [0, 1, 2, 3, 4, 5, 6, 7, 8, 9, 10, 11, 12, 13, 14]),
    (⟨(some 32), (some (24, false)), .iad 2 (.t 30) (.t 31)⟩, [0, 1, 2, 3, 4, 5, 6, 7, 8, 9, 10, 11, 12, 13, 14, 20, 21]),
    (⟨(some 33), (some (24, false)), .fad 1 (.t 32)⟩, [0, 1, 2, 3, 4, 5, 6, 7, 8, 9, 10, 11, 12, 13, 14, 20, 21, 22]),
    (⟨(some 34), (some (24, false)), .ld false 1 (.t 33)⟩, [0, 1, 2, 3, 4, 5, 6, 7, 8, 9, 10, 11, 12, 13, 14, 20, 21, 22, 23]),
    (⟨(some 35), (some (24, false)), .bin .gtr (.t 29) (.t 34)⟩, [0, 1, 2, 3, 4, 5, 6, 7, 8, 9, 10, 11, 12, 13, 14, 15, 16, 17, 18, 19, 20, 21, 22, 23, 24]),
    (⟨(some 36), none, .pick (.t 24) (.c (.bool true)) (.t 35)⟩, [0, 1, 2, 3, 4, 5, 6, 7, 8, 9, 10, 11, 12, 13, 14, 15, 16, 17, 18, 19, 20, 21, 22, 23, 24, 25])] (some [0, 3, 36]))
   (.cond (.t 36) (.seq (.rg [⟨(some 2), none, .mov (.c (.bool false))⟩] (some [2]))
   (.ret)) (.skip)))
   (.seq (.dq [(⟨(some 37), none, .mov (.t 3)⟩, []),
    (⟨(some 38), none, .bin .gtr (.t 37) (.c (.int .i64 0))⟩, [0]),
    (⟨(some 39), none, .mov (.t 38)⟩, [0, 1]),
    (⟨(some 40), (some (39, true)), .mov (.t 0)⟩, [0, 1, 2]),
    (⟨(some 41), (some (39, true)), .mov (.t 3)⟩, [0, 1, 2]),
    (⟨(some 42), (some (39, true)), .iad 2 (.t 40) (.t 41)⟩, [0, 1, 2, 3, 4]),
    (⟨(some 43), (some (39, true)), .fad 0 (.t 42)⟩, [0, 1, 2, 3, 4, 5]),
    (⟨(some 44), (some (39, true)), .ld false 1 (.t 43)⟩, [0, 1, 2, 3, 4, 5, 6]),
    (⟨(some 45), (some (39, true)), .mov (.t 0)⟩, [0, 1, 2]),
    (⟨(some 46), (some (39, true)), .mov (.t 3)⟩, [0, 1, 2]),
    (⟨(some 47), (some (39, true)), .bin .sub (.t 46) (.c (.int .i64 1))⟩, [0, 1, 2, 9]),
    (⟨(some 48), (some (39, true)), .iad 2 (.t 45) (.t 47)⟩, [0, 1, 2, 8, 9, 10]),
    (⟨(some 49), (some (39, true)), .fad 1 (.t 48)⟩, [0, 1, 2, 8, 9, 10, 11]),
    (⟨(some 50), (some (39, true)), .ld false 1 (.t 49)⟩, [0, 1, 2, 8, 9, 10, 11, 12]),
    (⟨(some 51), (some (39, true)), .bin .sub (.t 44) (.t 50)⟩, [0, 1, 2, 3, 4, 5, 6, 7, 8, 9, 10, 11, 12, 13]),
    (⟨(some 52), (some (39, true)), .bin .lss (.t 51) (.c (.int .i64 2))⟩, [0, 1, 2, 3, 4, 5, 6, 7, 8, 9, 10, 11, 12, 13, 14]),
    (⟨(some 53), none, .pick (.t 39) (.t 52) (.c (.bool false))⟩, [0, 1, 2, 3, 4, 5, 6, 7, 8, 9, 10, 11, 12, 13, 14, 15])] (some [0, 3, 53]))
   (.cond (.t 53) (.seq (.rg [⟨(some 2), none, .mov (.c (.bool false))⟩] (some [2]))
   (.ret)) (.skip)))))
   (.rg [⟨(some 8), none, .mov (.t 3)⟩,
    ⟨(some 9), none, .bin .add (.t 8) (.c (.int .i64 1))⟩,
    ⟨(some 3), none, .mov (.t 9)⟩] (some [0, 3])))
def i_ref03_Right_l0 : IR := .loop b_ref03_Right_0
theorem r_ref03_Right_0 {C : Cx} {Y : Yl} {fr : Fr} {h : List Ob} : evw C Y i_ref03_Right_l0 fr h = nxt (evw C Y b_ref03_Right_0 fr h) fun fr h => evw C Y i_ref03_Right_l0 fr h := w_loop
def i_ref03_Right : IR := .seq (.rg [⟨(some 2), none, .mov (.c (.bool false))⟩] (some [0]))
   (.seq (.seq (.rg [⟨(some 3), none, .mov (.c (.int .i64 0))⟩] (some [0, 3]))
   (.blk 0 (i_ref03_Right_l0)))
   (.seq (.rg [⟨(some 2), none, .mov (.c (.bool true))⟩] (some [2]))
   (.ret)))
def F_ref03_Right : F := ⟨i_ref03_Right, [(2, none)], false⟩
/-- stratagem/spans.At -/
def b_spans_At_0 : IR := .seq (.rg [⟨(some 20), none, .bin .lss (.t 19) (.t 18)⟩] (some [1, 17, 18, 19, 20]))
   (.seq (.cond (.t 20) (.skip) (.ext 0))
   (.seq (.blk 1 (.seq (.rg [⟨(some 21), none, .iad 2 (.t 17) (.t 19)⟩,
    ⟨(some 22), none, .ld true 2 (.t 21)⟩,
    ⟨(some 7), none, .new (.agg [.int .i64 0, .int .i64 0])⟩,
    ⟨none, none, .st 2 (.t 7) (.t 22)⟩] (some [1, 7, 17, 18, 19]))
   (.seq (.rg [⟨(some 23), none, .fad 1 (.t 7)⟩,
    ⟨(some 24), none, .ld false 1 (.t 23)⟩,
    ⟨(some 25), none, .fad 0 (.t 7)⟩,
    ⟨(some 26), none, .ld false 1 (.t 25)⟩,
    ⟨(some 27), none, .bin .sub (.t 24) (.t 26)⟩,
    ⟨(some 28), none, .bin .add (.t 27) (.c (.int .i64 1))⟩,
    ⟨(some 8), none, .mov (.t 28)⟩] (some [1, 7, 8, 17, 18, 19]))
   (.seq (.seq (.rg [⟨(some 29), none, .mov (.t 1)⟩,
    ⟨(some 30), none, .mov (.t 8)⟩,
    ⟨(some 31), none, .bin .lss (.t 29) (.t 30)⟩] (some [1, 7, 8, 17, 18, 19, 31]))
   (.cond (.t 31) (.seq (.rg [⟨(some 32), none, .fad 0 (.t 7)⟩,
    ⟨(some 33), none, .ld false 1 (.t 32)⟩,
    ⟨(some 34), none, .mov (.t 1)⟩,
    ⟨(some 35), none, .bin .add (.t 33) (.t 34)⟩,
    ⟨(some 4), none, .mov (.t 35)⟩,
    ⟨(some 5), none, .mov (.c (.bool true))⟩] (some [4, 5]))
   (.ret)) (.skip)))
   (.rg [⟨(some 36), none, .mov (.t 1)⟩,
    ⟨(some 37), none, .mov (.t 8)⟩,
    ⟨(some 38), none, .bin .sub (.t 36) (.t 37)⟩,
    ⟨(some 1), none, .mov (.t 38)⟩] (some [1, 17, 18, 19]))))))
   (.rg [⟨(some 39), none, .bin .add (.t 19) (.c (.int .i64 1))⟩,
    ⟨(some 19), none, .mov (.t 39)⟩] (some [1, 17, 18, 19]))))
def i_spans_At_l0 : IR := .loop b_spans_At_0
theorem r_spans_At_0 {C : Cx} {Y : Yl} {fr : Fr} {h : List Ob} : evw C Y i_spans_At_l0 fr h = nxt (evw C Y b_spans_At_0 fr h) fun fr h => evw C Y i_spans_At_l0 fr h := w_loop
def i_spans_At : IR := .seq (.rg [⟨(some 4), none, .mov (.c (.int .i64 0))⟩,
    ⟨(some 5), none, .mov (.c (.bool false))⟩] (some [0, 1]))
   (.seq (.seq (.rg [⟨(some 9), none, .mov (.t 1)⟩,
    ⟨(some 10), none, .bin .lss (.t 9) (.c (.int .i64 0))⟩,
    ⟨(some 11), none, .mov (.t 10)⟩,
    ⟨(some 12), (some (11, false)), .mov (.t 1)⟩,
    ⟨(some 13), (some (11, false)), .mov (.t 0)⟩,
    ⟨(some 14), (some (11, false)), .call n_spans_Size [(.t 13)]⟩,
    ⟨(some 15), (some (11, false)), .bin .geq (.t 12) (.t 14)⟩,
    ⟨(some 16), none, .pick (.t 11) (.c (.bool true)) (.t 15)⟩] (some [0, 1, 16]))
   (.cond (.t 16) (.seq (.rg [⟨(some 4), none, .mov (.c (.int .i64 0))⟩,
    ⟨(some 5), none, .mov (.c (.bool false))⟩] (some [4, 5]))
   (.ret)) (.skip)))
   (.seq (.seq (.rg [⟨(some 17), none, .mov (.t 0)⟩,
    ⟨(some 18), none, .len (.t 17)⟩,
    ⟨(some 19), none, .mov (.c (.int .i64 0))⟩] (some [1, 17, 18, 19]))
   (.blk 0 (i_spans_At_l0)))
   (.seq (.rg [⟨(some 4), none, .mov (.c (.int .i64 0))⟩,
    ⟨(some 5), none, .mov (.c (.bool false))⟩] (some [4, 5]))
   (.ret))))
def F_spans_At : F := ⟨i_spans_At, [(4, none), (5, none)], false⟩
/-- stratagem/spans.Right -/
def b_spans_Right_0 : IR := .seq (.rg [⟨(some 8), none, .bin .lss (.t 7) (.t 6)⟩] (some [0, 5, 6, 7, 8]))
   (.seq (.cond (.t 8) (.skip) (.ext 0))
   (.seq (.blk 1 (.seq (.rg [⟨(some 9), none, .mov (.t 7)⟩,
    ⟨(some 10), none, .iad 2 (.t 5) (.t 7)⟩,
    ⟨(some 11), none, .ld true 2 (.t 10)⟩,
    ⟨(some 4), none, .new (.agg [.int .i64 0, .int .i64 0])⟩,
    ⟨(some 3), none, .mov (.t 9)⟩,
    ⟨none, none, .st 2 (.t 4) (.t 11)⟩] (some [0, 3, 4, 5, 6, 7]))
   (.seq (.dq [(⟨(some 12), none, .fad 0 (.t 4)⟩, []),
    (⟨(some 13), none, .ld false 1 (.t 12)⟩, [0]),
    (⟨(some 14), none, .fad 1 (.t 4)⟩, []),
    (⟨(some 15), none, .ld false 1 (.t 14)⟩, [2]),
    (⟨(some 16), none, .bin .gtr (.t 13) (.t 15)⟩, [0, 1, 2, 3]),
    (⟨(some 17), none, .mov (.t 16)⟩, [0, 1, 2, 3, 4]),
    (⟨(some 18), (some (17, false)), .fad 0 (.t 4)⟩, [0, 1, 2, 3, 4, 5]),
    (⟨(some 19), (some (17, false)), .ld false 1 (.t 18)⟩, [0, 1, 2, 3, 4, 5, 6]),
    (⟨(some 20), (some (17, false)), .bin .lss (.t 19) (.c (.int .i64 (-1048576)))⟩, [0, 1, 2, 3, 4, 5, 6, 7]),
    (⟨(some 21), none, .pick (.t 17) (.c (.bool true)) (.t 20)⟩, [0, 1, 2, 3, 4, 5, 6, 7, 8]),
    (⟨(some 22), none, .mov (.t 21)⟩, [0, 1, 2, 3, 4, 5, 6, 7, 8, 9]),
    (⟨(some 23), (some (22, false)), .fad 1 (.t 4)⟩, [0, 1, 2, 3, 4, 5, 6, 7, 8, 9, 10]),
    (⟨(some 24), (some (22, false)), .ld false 1 (.t 23)⟩, [0, 1, 2, 3, 4, 5, 6, 7, 8, 9, 10, 11]),
    (⟨(some 25), (some (22, false)), .bin .gtr (.t 24) (.c (.int .i64 1048576))⟩, [0, 1, 2, 3, 4, 5, 6, 7, 8, 9, 10, 11, 12]),
    (⟨(some 26), none, .pick (.t 22) (.c (.bool true)) (.t 25)⟩, [0, 1, 2, 3, 4, 5, 6, 7, 8, 9, 10, 11, 12, 13]),
    (⟨(some 27), none, .mov (.t 26)⟩, [0, 1, 2, 3, 4, 5, 6, 7, 8, 9, 10, 11, 12, 13, 14]),
    (⟨(some 28), (some (27, false)), .mov (.t 3)⟩, [0, 1, 2, 3, 4, 5, 6, 7, 8, 9, 10, 11, 12, 13, 14, 15]),
    (⟨(some 29), (some (27, false)), .bin .gtr (.t 28) (.c (.int .i64 0))⟩, [0, 1, 2, 3, 4, 5, 6, 7, 8, 9, 10, 11, 12, 13, 14, 15, 16]),
    (⟨(some 30), (some (27, false)), .mov (.t 29)⟩, [0, 1, 2, 3, 4, 5, 6, 7, 8, 9, 10, 11, 12, 13, 14, 15, 16, 17]),
    (⟨(some 31), (some (30, true)), .fad 0 (.t 4)⟩, [0, 1, 2, 3, 4, 5, 6, 7, 8, 9, 10, 11, 12, 13, 14, 15, 16, 17, 18]),
    (⟨(some 32), (some (30, true)), .ld false 1 (.t 31)⟩, [0, 1, 2, 3, 4, 5, 6, 7, 8, 9, 10, 11, 12, 13, 14, 15, 16, 17, 18, 19]),
    (⟨(some 33), (some (30, true)), .mov (.t 0)⟩, [0, 1, 2, 3, 4, 5, 6, 7, 8, 9, 10, 11, 12, 13, 14, 15, 16, 17, 18]),
    (⟨(some 34), (some (30, true)), .mov (.t 3)⟩, [0, 1, 2, 3, 4, 5, 6, 7, 8, 9, 10, 11, 12, 13, 14, 15, 16, 17, 18]),
    (⟨(some 35), (some (30, true)), .bin .sub (.t 34) (.c (.int .i64 1))⟩, [0, 1, 2, 3, 4, 5, 6, 7, 8, 9, 10, 11, 12, 13, 14, 15, 16, 17, 18, 22]),
    (⟨(some 36), (some (30, true)), .iad 2 (.t 33) (.t 35)⟩, [0, 1, 2, 3, 4, 5, 6, 7, 8, 9, 10, 11, 12, 13, 14, 15, 16, 17, 18, 21, 22, 23]),
    (⟨(some 37), (some (30, true)), .fad 1 (.t 36)⟩, [0, 1, 2, 3, 4, 5, 6, 7, 8, 9, 10, 11, 12, 13, 14, 15, 16, 17, 18, 21, 22, 23, 24]),
    (⟨(some 38), (some (30, true)), .ld false 1 (.t 37)⟩, [0, 1, 2, 3, 4, 5, 6, 7, 8, 9, 10, 11, 12, 13, 14, 15, 16, 17, 18, 21, 22, 23, 24, 25]),
    (⟨(some 39), (some (30, true)), .bin .add (.t 38) (.c (.int .i64 1))⟩, [0, 1, 2, 3, 4, 5, 6, 7, 8, 9, 10, 11, 12, 13, 14, 15, 16, 17, 18, 21, 22, 23, 24, 25, 26]),
    (⟨(some 40), (some (30, true)), .bin .leq (.t 32) (.t 39)⟩, [0, 1, 2, 3, 4, 5, 6, 7, 8, 9, 10, 11, 12, 13, 14, 15, 16, 17, 18, 19, 20, 21, 22, 23, 24, 25, 26, 27]),
    (⟨(some 41), (some (27, false)), .pick (.t 30) (.t 40) (.c (.bool false))⟩, [0, 1, 2, 3, 4, 5, 6, 7, 8, 9, 10, 11, 12, 13, 14, 15, 16, 17, 18, 19, 20, 21, 22, 23, 24, 25, 26, 27, 28]),
    (⟨(some 42), none, .pick (.t 27) (.c (.bool true)) (.t 41)⟩, [0, 1, 2, 3, 4, 5, 6, 7, 8, 9, 10, 11, 12, 13, 14, 15, 16, 17, 18, 19, 20, 21, 22, 23, 24, 25, 26, 27, 28, 29])] (some [0, 5, 6, 7, 42]))
   (.cond (.t 42) (.seq (.rg [⟨(some 2), none, .mov (.c (.bool false))⟩] (some [2]))
   (.ret)) (.skip)))))
   (.rg [⟨(some 43), none, .bin .add (.t 7) (.c (.int .i64 1))⟩,
    ⟨(some 7), none, .mov (.t 43)⟩] (some [0, 5, 6, 7]))))
def i_spans_Right_l0 : IR := .loop b_spans_Right_0
theorem r_spans_Right_0 {C : Cx} {Y : Yl} {fr : Fr} {h : List Ob} : evw C Y i_spans_Right_l0 fr h = nxt (evw C Y b_spans_Right_0 fr h) fun fr h => evw C Y i_spans_Right_l0 fr h := w_loop
def i_spans_Right : IR := .seq (.rg [⟨(some 2), none, .mov (.c (.bool false))⟩] (some [0]))
   (.seq (.seq (.rg [⟨(some 5), none, .mov (.t 0)⟩,
    ⟨(some 6), none, .len (.t 5)⟩,
    ⟨(some 7), none, .mov (.c (.int .i64 0))⟩] (some [0, 5, 6, 7]))
   (.blk 0 (i_spans_Right_l0)))
   (.seq (.rg [⟨(some 2), none, .mov (.c (.bool true))⟩] (some [2]))
   (.ret)))
def F_spans_Right : F := ⟨i_spans_Right, [(2, none)], false⟩
/-- stratagem/spans.Size -/
def b_spans_Size_0 : IR := .seq (.rg [⟨(some 12), none, .bin .lss (.t 11) (.t 10)⟩] (some [3, 9, 10, 11, 12]))
   (.seq (.cond (.t 12) (.skip) (.ext 0))
   (.seq (.blk 1 (.seq (.rg [⟨(some 13), none, .iad 2 (.t 9) (.t 11)⟩,
    ⟨(some 14), none, .ld true 2 (.t 13)⟩,
    ⟨(some 5), none, .new (.agg [.int .i64 0, .int .i64 0])⟩,
    ⟨none, none, .st 2 (.t 5) (.t 14)⟩] (some [3, 5, 9, 10, 11]))
   (.rg [⟨(some 15), none, .mov (.t 3)⟩,
    ⟨(some 16), none, .fad 1 (.t 5)⟩,
    ⟨(some 17), none, .ld false 1 (.t 16)⟩,
    ⟨(some 18), none, .fad 0 (.t 5)⟩,
    ⟨(some 19), none, .ld false 1 (.t 18)⟩,
    ⟨(some 20), none, .bin .sub (.t 17) (.t 19)⟩,
    ⟨(some 21), none, .bin .add (.t 20) (.c (.int .i64 1))⟩,
    ⟨(some 22), none, .bin .add (.t 15) (.t 21)⟩,
    ⟨(some 3), none, .mov (.t 22)⟩] (some [3, 9, 10, 11]))))
   (.rg [⟨(some 23), none, .bin .add (.t 11) (.c (.int .i64 1))⟩,
    ⟨(some 11), none, .mov (.t 23)⟩] (some [3, 9, 10, 11]))))
def i_spans_Size_l0 : IR := .loop b_spans_Size_0
theorem r_spans_Size_0 {C : Cx} {Y : Yl} {fr : Fr} {h : List Ob} : evw C Y i_spans_Size_l0 fr h = nxt (evw C Y b_spans_Size_0 fr h) fun fr h => evw C Y i_spans_Size_l0 fr h := w_loop
def i_spans_Size : IR := .seq (.rg [⟨(some 2), none, .mov (.c (.int .i64 0))⟩] (some [0]))
   (.seq (.seq (.rg [⟨(some 6), none, .mov (.t 0)⟩,
    ⟨(some 7), none, .call n_spans_Right [(.t 6)]⟩,
    ⟨(some 8), none, .un .not (.t 7)⟩] (some [0, 8]))
   (.cond (.t 8) (.seq (.rg [⟨(some 2), none, .mov (.c (.int .i64 0))⟩] (some [2]))
   (.ret)) (.skip)))
   (.seq (.rg [⟨(some 3), none, .mov (.c (.int .i64 0))⟩] (some [0, 3]))
   (.seq (.seq (.rg [⟨(some 9), none, .mov (.t 0)⟩,
    ⟨(some 10), none, .len (.t 9)⟩,
    ⟨(some 11), none, .mov (.c (.int .i64 0))⟩] (some [3, 9, 10, 11]))
   (.blk 0 (i_spans_Size_l0)))
   (.seq (.rg [⟨(some 24), none, .mov (.t 3)⟩,
    ⟨(some 2), none, .mov (.t 24)⟩] (some [2]))
   (.ret)))))
def F_spans_Size : F := ⟨i_spans_Size, [(2, none)], false⟩
/-- stratagem/stratagemref03.Size -/
def b_ref03_Size_0 : IR := .seq (.seq (.rg [⟨(some 5), none, .mov (.t 4)⟩,
    ⟨(some 6), none, .mov (.t 0)⟩,
    ⟨(some 7), none, .len (.t 6)⟩,
    ⟨(some 8), none, .bin .lss (.t 5) (.t 7)⟩,
    ⟨(some 9), none, .mov (.t 8)⟩,
    ⟨(some 10), (some (9, true)), .mov (.t 0)⟩,
    ⟨(some 11), (some (9, true)), .call n_ref03_Right [(.t 10)]⟩,
    ⟨(some 12), none, .pick (.t 9) (.t 11) (.c (.bool false))⟩] (some [0, 3, 4, 12]))
   (.cond (.t 12) (.skip) (.ext 0)))
   (.seq (.blk 1 (.dq [(⟨(some 15), none, .mov (.t 3)⟩, []),
    (⟨(some 16), none, .mov (.t 0)⟩, []),
    (⟨(some 17), none, .mov (.t 4)⟩, []),
    (⟨(some 18), none, .iad 2 (.t 16) (.t 17)⟩, [1, 2]),
    (⟨(some 19), none, .fad 1 (.t 18)⟩, [1, 2, 3]),
    (⟨(some 20), none, .ld false 1 (.t 19)⟩, [1, 2, 3, 4]),
    (⟨(some 21), none, .bin .add (.t 15) (.t 20)⟩, [0, 1, 2, 3, 4, 5]),
    (⟨(some 22), none, .bin .add (.t 21) (.c (.int .i64 1))⟩, [0, 1, 2, 3, 4, 5, 6]),
    (⟨(some 23), none, .mov (.t 0)⟩, []),
    (⟨(some 24), none, .mov (.t 4)⟩, []),
    (⟨(some 25), none, .iad 2 (.t 23) (.t 24)⟩, [8, 9]),
    (⟨(some 26), none, .fad 0 (.t 25)⟩, [8, 9, 10]),
    (⟨(some 27), none, .ld false 1 (.t 26)⟩, [8, 9, 10, 11]),
    (⟨(some 28), none, .bin .sub (.t 22) (.t 27)⟩, [0, 1, 2, 3, 4, 5, 6, 7, 8, 9, 10, 11, 12]),
    (⟨(some 3), none, .mov (.t 28)⟩, [0, 1, 2, 3, 4, 5, 6, 7, 8, 9, 10, 11, 12, 13])] (some [0, 3, 4])))
   (.rg [⟨(some 13), none, .mov (.t 4)⟩,
    ⟨(some 14), none, .bin .add (.t 13) (.c (.int .i64 1))⟩,
    ⟨(some 4), none, .mov (.t 14)⟩] (some [0, 3, 4])))
def i_ref03_Size_l0 : IR := .loop b_ref03_Size_0
theorem r_ref03_Size_0 {C : Cx} {Y : Yl} {fr : Fr} {h : List Ob} : evw C Y i_ref03_Size_l0 fr h = nxt (evw C Y b_ref03_Size_0 fr h) fun fr h => evw C Y i_ref03_Size_l0 fr h := w_loop
def i_ref03_Size : IR := .seq (.rg [⟨(some 2), none, .mov (.c (.int .i64 0))⟩] (some [0]))
   (.seq (.rg [⟨(some 3), none, .mov (.c (.int .i64 0))⟩] (some [0, 3]))
   (.seq (.seq (.rg [⟨(some 4), none, .mov (.c (.int .i64 0))⟩] (some [0, 3, 4]))
   (.blk 0 (i_ref03_Size_l0)))
   (.seq (.rg [⟨(some 29), none, .mov (.t 3)⟩,
    ⟨(some 2), none, .mov (.t 29)⟩] (some [2]))
   (.ret))))
def F_ref03_Size : F := ⟨i_ref03_Size, [(2, none)], false⟩
/-- stratagem/spans.Has -/
def i_spans_Has : IR := .seq (.rg [⟨(some 4), none, .mov (.c (.bool false))⟩] (some [0, 1]))
   (.seq (.rg [⟨(some 5), none, .mov (.t 0)⟩,
    ⟨(some 6), none, .mov (.t 1)⟩,
    ⟨(some 7), none, .call n_spans_Place [(.t 5), (.t 6)]⟩,
    ⟨(some 8), none, .bin .geq (.t 7) (.c (.int .i64 0))⟩,
    ⟨(some 4), none, .mov (.t 8)⟩] (some [4]))
   (.ret))
def F_spans_Has : F := ⟨i_spans_Has, [(4, none)], false⟩
/-- stratagem/stratagemref03.In -/
def b_ref03_In_0 : IR := .seq (.seq (.rg [⟨(some 6), none, .mov (.t 5)⟩,
    ⟨(some 7), none, .mov (.t 0)⟩,
    ⟨(some 8), none, .len (.t 7)⟩,
    ⟨(some 9), none, .bin .lss (.t 6) (.t 8)⟩] (some [0, 1, 5, 9]))
   (.cond (.t 9) (.skip) (.ext 0)))
   (.seq (.blk 1 (.seq (.rg [⟨(some 12), none, .mov (.t 1)⟩,
    ⟨(some 13), none, .mov (.t 0)⟩,
    ⟨(some 14), none, .mov (.t 5)⟩,
    ⟨(some 15), none, .iad 2 (.t 13) (.t 14)⟩,
    ⟨(some 16), none, .fad 0 (.t 15)⟩,
    ⟨(some 17), none, .ld false 1 (.t 16)⟩,
    ⟨(some 18), none, .bin .geq (.t 12) (.t 17)⟩,
    ⟨(some 19), none, .mov (.t 18)⟩,
    ⟨(some 20), (some (19, true)), .mov (.t 1)⟩,
    ⟨(some 21), (some (19, true)), .mov (.t 0)⟩,
    ⟨(some 22), (some (19, true)), .mov (.t 5)⟩,
    ⟨(some 23), (some (19, true)), .iad 2 (.t 21) (.t 22)⟩,
    ⟨(some 24), (some (19, true)), .fad 1 (.t 23)⟩,
    ⟨(some 25), (some (19, true)), .ld false 1 (.t 24)⟩,
    ⟨(some 26), (some (19, true)), .bin .leq (.t 20) (.t 25)⟩,
    ⟨(some 27), none, .pick (.t 19) (.t 26) (.c (.bool false))⟩] (some [0, 1, 5, 27]))
   (.cond (.t 27) (.seq (.rg [⟨(some 4), none, .mov (.c (.bool true))⟩] (some [4]))
   (.ret)) (.skip))))
   (.rg [⟨(some 10), none, .mov (.t 5)⟩,
    ⟨(some 11), none, .bin .add (.t 10) (.c (.int .i64 1))⟩,
    ⟨(some 5), none, .mov (.t 11)⟩] (some [0, 1, 5])))
def i_ref03_In_l0 : IR := .loop b_ref03_In_0
theorem r_ref03_In_0 {C : Cx} {Y : Yl} {fr : Fr} {h : List Ob} : evw C Y i_ref03_In_l0 fr h = nxt (evw C Y b_ref03_In_0 fr h) fun fr h => evw C Y i_ref03_In_l0 fr h := w_loop
def i_ref03_In : IR := .seq (.rg [⟨(some 4), none, .mov (.c (.bool false))⟩] (some [0, 1]))
   (.seq (.seq (.rg [⟨(some 5), none, .mov (.c (.int .i64 0))⟩] (some [0, 1, 5]))
   (.blk 0 (i_ref03_In_l0)))
   (.seq (.rg [⟨(some 4), none, .mov (.c (.bool false))⟩] (some [4]))
   (.ret)))
def F_ref03_In : F := ⟨i_ref03_In, [(4, none)], false⟩
/-- stratagem/spans.Place -/
def b_spans_Place_0 : IR := .seq (.rg [⟨(some 14), none, .bin .lss (.t 13) (.t 12)⟩] (some [1, 5, 11, 12, 13, 14]))
   (.seq (.cond (.t 14) (.skip) (.ext 0))
   (.seq (.blk 1 (.seq (.rg [⟨(some 15), none, .iad 2 (.t 11) (.t 13)⟩,
    ⟨(some 16), none, .ld true 2 (.t 15)⟩,
    ⟨(some 7), none, .new (.agg [.int .i64 0, .int .i64 0])⟩,
    ⟨none, none, .st 2 (.t 7) (.t 16)⟩] (some [1, 5, 7, 11, 12, 13]))
   (.seq (.blk 2 (.seq (.rg [⟨(some 18), none, .mov (.t 1)⟩,
    ⟨(some 19), none, .fad 0 (.t 7)⟩,
    ⟨(some 20), none, .ld false 1 (.t 19)⟩,
    ⟨(some 21), none, .bin .lss (.t 18) (.t 20)⟩,
    ⟨(some 17), none, .mov (.t 21)⟩] (some [1, 5, 7, 11, 12, 13, 17]))
   (.cond (.t 17) (.ext 0) (.seq (.rg [⟨(some 23), none, .mov (.t 1)⟩,
    ⟨(some 24), none, .fad 1 (.t 7)⟩,
    ⟨(some 25), none, .ld false 1 (.t 24)⟩,
    ⟨(some 26), none, .bin .leq (.t 23) (.t 25)⟩,
    ⟨(some 22), none, .mov (.t 26)⟩] (some [1, 5, 7, 11, 12, 13, 22]))
   (.cond (.t 22) (.seq (.rg [⟨(some 27), none, .mov (.t 5)⟩,
    ⟨(some 28), none, .mov (.t 1)⟩,
    ⟨(some 29), none, .bin .add (.t 27) (.t 28)⟩,
    ⟨(some 30), none, .fad 0 (.t 7)⟩,
    ⟨(some 31), none, .ld false 1 (.t 30)⟩,
    ⟨(some 32), none, .bin .sub (.t 29) (.t 31)⟩,
    ⟨(some 4), none, .mov (.t 32)⟩] (some [4]))
   (.ret)) (.skip))))))
   (.rg [⟨(some 33), none, .mov (.t 5)⟩,
    ⟨(some 34), none, .fad 1 (.t 7)⟩,
    ⟨(some 35), none, .ld false 1 (.t 34)⟩,
    ⟨(some 36), none, .fad 0 (.t 7)⟩,
    ⟨(some 37), none, .ld false 1 (.t 36)⟩,
    ⟨(some 38), none, .bin .sub (.t 35) (.t 37)⟩,
    ⟨(some 39), none, .bin .add (.t 38) (.c (.int .i64 1))⟩,
    ⟨(some 40), none, .bin .add (.t 33) (.t 39)⟩,
    ⟨(some 5), none, .mov (.t 40)⟩] (some [1, 5, 11, 12, 13])))))
   (.rg [⟨(some 41), none, .bin .add (.t 13) (.c (.int .i64 1))⟩,
    ⟨(some 13), none, .mov (.t 41)⟩] (some [1, 5, 11, 12, 13]))))
def i_spans_Place_l0 : IR := .loop b_spans_Place_0
theorem r_spans_Place_0 {C : Cx} {Y : Yl} {fr : Fr} {h : List Ob} : evw C Y i_spans_Place_l0 fr h = nxt (evw C Y b_spans_Place_0 fr h) fun fr h => evw C Y i_spans_Place_l0 fr h := w_loop
def i_spans_Place : IR := .seq (.rg [⟨(some 4), none, .mov (.c (.int .i64 0))⟩] (some [0, 1]))
   (.scg (.seq (.seq (.rg [⟨(some 8), none, .mov (.t 0)⟩,
    ⟨(some 9), none, .call n_spans_Right [(.t 8)]⟩,
    ⟨(some 10), none, .un .not (.t 9)⟩] (some [0, 1, 10]))
   (.cond (.t 10) (.seq (.rg [⟨(some 4), none, .mov (.c (.int .i64 (-1)))⟩] (some [4]))
   (.ret)) (.skip)))
   (.seq (.rg [⟨(some 5), none, .mov (.c (.int .i64 0))⟩] (some [0, 1, 5]))
   (.seq (.lab 0)
   (.seq (.seq (.rg [⟨(some 11), none, .mov (.t 0)⟩,
    ⟨(some 12), none, .len (.t 11)⟩,
    ⟨(some 13), none, .mov (.c (.int .i64 0))⟩] (some [1, 5, 11, 12, 13]))
   (.blk 0 (i_spans_Place_l0)))
   (.seq (.rg [⟨(some 4), none, .mov (.c (.int .i64 (-1)))⟩] (some [4]))
   (.ret)))))))
def F_spans_Place : F := ⟨i_spans_Place, [(4, none)], false⟩
/-- stratagem/stratagemref03.Place -/
def b_ref03_Place_0 : IR := .seq (.seq (.rg [⟨(some 16), none, .mov (.t 6)⟩,
    ⟨(some 17), none, .mov (.t 0)⟩,
    ⟨(some 18), none, .len (.t 17)⟩,
    ⟨(some 19), none, .bin .lss (.t 16) (.t 18)⟩] (some [0, 1, 5, 6, 19]))
   (.cond (.t 19) (.skip) (.ext 0)))
   (.seq (.blk 1 (.seq (.rg [⟨(some 22), none, .mov (.t 0)⟩,
    ⟨(some 23), none, .mov (.t 6)⟩,
    ⟨(some 24), none, .iad 2 (.t 22) (.t 23)⟩,
    ⟨(some 25), none, .fad 1 (.t 24)⟩,
    ⟨(some 26), none, .ld false 1 (.t 25)⟩,
    ⟨(some 27), none, .mov (.t 1)⟩,
    ⟨(some 28), none, .bin .lss (.t 26) (.t 27)⟩] (some [0, 1, 5, 6, 28]))
   (.cond (.t 28) (.dq [(⟨(some 29), none, .mov (.t 5)⟩, []),
    (⟨(some 30), none, .mov (.t 0)⟩, []),
    (⟨(some 31), none, .mov (.t 6)⟩, []),
    (⟨(some 32), none, .iad 2 (.t 30) (.t 31)⟩, [1, 2]),
    (⟨(some 33), none, .fad 1 (.t 32)⟩, [1, 2, 3]),
    (⟨(some 34), none, .ld false 1 (.t 33)⟩, [1, 2, 3, 4]),
    (⟨(some 35), none, .bin .add (.t 29) (.t 34)⟩, [0, 1, 2, 3, 4, 5]),
    (⟨(some 36), none, .bin .add (.t 35) (.c (.int .i64 1))⟩, [0, 1, 2, 3, 4, 5, 6]),
    (⟨(some 37), none, .mov (.t 0)⟩, []),
    (⟨(some 38), none, .mov (.t 6)⟩, []),
    (⟨(some 39), none, .iad 2 (.t 37) (.t 38)⟩, [8, 9]),
    (⟨(some 40), none, .fad 0 (.t 39)⟩, [8, 9, 10]),
    (⟨(some 41), none, .ld false 1 (.t 40)⟩, [8, 9, 10, 11]),
    (⟨(some 42), none, .bin .sub (.t 36) (.t 41)⟩, [0, 1, 2, 3, 4, 5, 6, 7, 8, 9, 10, 11, 12]),
    (⟨(some 5), none, .mov (.t 42)⟩, [0, 1, 2, 3, 4, 5, 6, 7, 8, 9, 10, 11, 12, 13])] (some [0, 1, 5, 6])) (.seq (.rg [⟨(some 43), none, .mov (.t 0)⟩,
    ⟨(some 44), none, .mov (.t 6)⟩,
    ⟨(some 45), none, .iad 2 (.t 43) (.t 44)⟩,
    ⟨(some 46), none, .fad 0 (.t 45)⟩,
    ⟨(some 47), none, .ld false 1 (.t 46)⟩,
    ⟨(some 48), none, .mov (.t 1)⟩,
    ⟨(some 49), none, .bin .leq (.t 47) (.t 48)⟩] (some [0, 1, 5, 6, 49]))
   (.cond (.t 49) (.rg [⟨(some 50), none, .mov (.t 5)⟩,
    ⟨(some 51), none, .mov (.t 1)⟩,
    ⟨(some 52), none, .bin .add (.t 50) (.t 51)⟩,
    ⟨(some 53), none, .mov (.t 0)⟩,
    ⟨(some 54), none, .mov (.t 6)⟩,
    ⟨(some 55), none, .iad 2 (.t 53) (.t 54)⟩,
    ⟨(some 56), none, .fad 0 (.t 55)⟩,
    ⟨(some 57), none, .ld false 1 (.t 56)⟩,
    ⟨(some 58), none, .bin .sub (.t 52) (.t 57)⟩,
    ⟨(some 5), none, .mov (.t 58)⟩] (some [0, 1, 5, 6])) (.skip))))))
   (.rg [⟨(some 20), none, .mov (.t 6)⟩,
    ⟨(some 21), none, .bin .add (.t 20) (.c (.int .i64 1))⟩,
    ⟨(some 6), none, .mov (.t 21)⟩] (some [0, 1, 5, 6])))
def i_ref03_Place_l0 : IR := .loop b_ref03_Place_0
theorem r_ref03_Place_0 {C : Cx} {Y : Yl} {fr : Fr} {h : List Ob} : evw C Y i_ref03_Place_l0 fr h = nxt (evw C Y b_ref03_Place_0 fr h) fun fr h => evw C Y i_ref03_Place_l0 fr h := w_loop
def i_ref03_Place : IR := .seq (.rg [⟨(some 4), none, .mov (.c (.int .i64 0))⟩] (some [0, 1]))
   (.seq (.seq (.rg [⟨(some 7), none, .mov (.t 0)⟩,
    ⟨(some 8), none, .call n_ref03_Right [(.t 7)]⟩,
    ⟨(some 9), none, .un .not (.t 8)⟩,
    ⟨(some 10), none, .mov (.t 9)⟩,
    ⟨(some 11), (some (10, false)), .mov (.t 0)⟩,
    ⟨(some 12), (some (10, false)), .mov (.t 1)⟩,
    ⟨(some 13), (some (10, false)), .call n_ref03_In [(.t 11), (.t 12)]⟩,
    ⟨(some 14), (some (10, false)), .un .not (.t 13)⟩,
    ⟨(some 15), none, .pick (.t 10) (.c (.bool true)) (.t 14)⟩] (some [0, 1, 15]))
   (.cond (.t 15) (.seq (.rg [⟨(some 4), none, .mov (.c (.int .i64 (-1)))⟩] (some [4]))
   (.ret)) (.skip)))
   (.seq (.rg [⟨(some 5), none, .mov (.c (.int .i64 0))⟩] (some [0, 1, 5]))
   (.seq (.seq (.rg [⟨(some 6), none, .mov (.c (.int .i64 0))⟩] (some [0, 1, 5, 6]))
   (.blk 0 (i_ref03_Place_l0)))
   (.seq (.rg [⟨(some 59), none, .mov (.t 5)⟩,
    ⟨(some 4), none, .mov (.t 59)⟩] (some [4]))
   (.ret)))))
def F_ref03_Place : F := ⟨i_ref03_Place, [(4, none)], false⟩
/-- stratagem/spans.Of -/
def b_spans_Of_0 : IR := .seq (.rg [⟨(some 12), none, .bin .lss (.t 11) (.t 10)⟩] (some [4, 9, 10, 11, 12]))
   (.seq (.cond (.t 12) (.skip) (.ext 0))
   (.seq (.blk 1 (.seq (.rg [⟨(some 13), none, .iad 1 (.t 9) (.t 11)⟩,
    ⟨(some 14), none, .ld false 1 (.t 13)⟩,
    ⟨(some 6), none, .mov (.t 14)⟩] (some [4, 6, 9, 10, 11]))
   (.seq (.seq (.rg [⟨(some 15), none, .mov (.t 6)⟩,
    ⟨(some 16), none, .bin .lss (.t 15) (.c (.int .i64 (-1048576)))⟩,
    ⟨(some 17), none, .mov (.t 16)⟩,
    ⟨(some 18), (some (17, false)), .mov (.t 6)⟩,
    ⟨(some 19), (some (17, false)), .bin .gtr (.t 18) (.c (.int .i64 1048576))⟩,
    ⟨(some 20), none, .pick (.t 17) (.c (.bool true)) (.t 19)⟩] (some [4, 6, 9, 10, 11, 20]))
   (.cond (.t 20) (.seq (.rg [⟨(some 2), none, .mov (.c (.nsl 2))⟩,
    ⟨(some 3), none, .mov (.c (.int .i64 1))⟩] (some [2, 3]))
   (.ret)) (.skip)))
   (.rg [⟨(some 21), none, .mov (.t 4)⟩,
    ⟨(some 22), none, .mov (.t 6)⟩,
    ⟨(some 23), none, .mov (.t 6)⟩,
    ⟨(some 24), none, .bld [.int .i64 0, .int .i64 0] [(0, 1, (.t 22)), (1, 1, (.t 23))]⟩,
    ⟨(some 25), none, .call n_spans_put [(.t 21), (.t 24)]⟩,
    ⟨(some 4), none, .mov (.t 25)⟩] (some [4, 9, 10, 11])))))
   (.rg [⟨(some 26), none, .bin .add (.t 11) (.c (.int .i64 1))⟩,
    ⟨(some 11), none, .mov (.t 26)⟩] (some [4, 9, 10, 11]))))
def i_spans_Of_l0 : IR := .loop b_spans_Of_0
theorem r_spans_Of_0 {C : Cx} {Y : Yl} {fr : Fr} {h : List Ob} : evw C Y i_spans_Of_l0 fr h = nxt (evw C Y b_spans_Of_0 fr h) fun fr h => evw C Y i_spans_Of_l0 fr h := w_loop
def i_spans_Of : IR := .seq (.rg [⟨(some 2), none, .mov (.c (.nsl 2))⟩,
    ⟨(some 3), none, .mov (.c (.int .i64 0))⟩] (some [0]))
   (.seq (.rg [⟨(some 4), none, .mov (.c (.nsl 2))⟩] (some [0, 4]))
   (.seq (.seq (.rg [⟨(some 7), none, .mov (.t 0)⟩,
    ⟨(some 8), none, .call n_slices_Values_sint_int [(.t 7)]⟩,
    ⟨(some 9), none, .call n_slices_Sorted_int [(.t 8)]⟩,
    ⟨(some 10), none, .len (.t 9)⟩,
    ⟨(some 11), none, .mov (.c (.int .i64 0))⟩] (some [4, 9, 10, 11]))
   (.blk 0 (i_spans_Of_l0)))
   (.seq (.rg [⟨(some 27), none, .mov (.t 4)⟩,
    ⟨(some 2), none, .mov (.t 27)⟩,
    ⟨(some 3), none, .mov (.c (.int .i64 0))⟩] (some [2, 3]))
   (.ret))))
def F_spans_Of : F := ⟨i_spans_Of, [(2, none), (3, none)], false⟩
/-- stratagem/stratagemref03.Of -/
def b_ref03_Of_0 : IR := .seq (.seq (.rg [⟨(some 11), none, .mov (.t 6)⟩,
    ⟨(some 12), none, .mov (.t 0)⟩,
    ⟨(some 13), none, .len (.t 12)⟩,
    ⟨(some 14), none, .bin .lss (.t 11) (.t 13)⟩] (some [0, 4, 5, 6, 14]))
   (.cond (.t 14) (.skip) (.ext 0)))
   (.seq (.blk 1 (.seq (.rg [⟨(some 17), none, .mov (.t 0)⟩,
    ⟨(some 18), none, .mov (.t 6)⟩,
    ⟨(some 19), none, .iad 1 (.t 17) (.t 18)⟩,
    ⟨(some 20), none, .ld false 1 (.t 19)⟩,
    ⟨(some 21), none, .bin .lss (.t 20) (.c (.int .i64 (-1048576)))⟩,
    ⟨(some 22), none, .mov (.t 21)⟩,
    ⟨(some 23), (some (22, false)), .mov (.t 0)⟩,
    ⟨(some 24), (some (22, false)), .mov (.t 6)⟩,
    ⟨(some 25), (some (22, false)), .iad 1 (.t 23) (.t 24)⟩,
    ⟨(some 26), (some (22, false)), .ld false 1 (.t 25)⟩,
    ⟨(some 27), (some (22, false)), .bin .gtr (.t 26) (.c (.int .i64 1048576))⟩,
    ⟨(some 28), none, .pick (.t 22) (.c (.bool true)) (.t 27)⟩] (some [0, 4, 5, 6, 28]))
   (.cond (.t 28) (.seq (.rg [⟨(some 2), none, .mov (.c (.nsl 2))⟩,
    ⟨(some 3), none, .mov (.c (.int .i64 1))⟩] (some [2, 3]))
   (.ret)) (.skip))))
   (.rg [⟨(some 15), none, .mov (.t 6)⟩,
    ⟨(some 16), none, .bin .add (.t 15) (.c (.int .i64 1))⟩,
    ⟨(some 6), none, .mov (.t 16)⟩] (some [0, 4, 5, 6])))
def i_ref03_Of_l0 : IR := .loop b_ref03_Of_0
theorem r_ref03_Of_0 {C : Cx} {Y : Yl} {fr : Fr} {h : List Ob} : evw C Y i_ref03_Of_l0 fr h = nxt (evw C Y b_ref03_Of_0 fr h) fun fr h => evw C Y i_ref03_Of_l0 fr h := w_loop
def b_ref03_Of_1 : IR := .seq (.seq (.rg [⟨(some 30), none, .mov (.t 9)⟩,
    ⟨(some 31), none, .mov (.t 0)⟩,
    ⟨(some 32), none, .len (.t 31)⟩,
    ⟨(some 33), none, .bin .lss (.t 30) (.t 32)⟩] (some [0, 4, 5, 8, 9, 33]))
   (.cond (.t 33) (.skip) (.ext 4)))
   (.seq (.blk 5 (.seq (.rg [⟨(some 36), none, .mov (.t 0)⟩,
    ⟨(some 37), none, .mov (.t 9)⟩,
    ⟨(some 38), none, .iad 1 (.t 36) (.t 37)⟩,
    ⟨(some 39), none, .ld false 1 (.t 38)⟩,
    ⟨(some 40), none, .mov (.t 5)⟩,
    ⟨(some 41), none, .bin .gtr (.t 39) (.t 40)⟩,
    ⟨(some 42), none, .mov (.t 41)⟩,
    ⟨(some 43), (some (42, true)), .mov (.t 0)⟩,
    ⟨(some 44), (some (42, true)), .mov (.t 9)⟩,
    ⟨(some 45), (some (42, true)), .iad 1 (.t 43) (.t 44)⟩,
    ⟨(some 46), (some (42, true)), .ld false 1 (.t 45)⟩,
    ⟨(some 47), (some (42, true)), .mov (.t 8)⟩,
    ⟨(some 48), (some (42, true)), .bin .lss (.t 46) (.t 47)⟩,
    ⟨(some 49), none, .pick (.t 42) (.t 48) (.c (.bool false))⟩] (some [0, 4, 5, 8, 9, 49]))
   (.cond (.t 49) (.rg [⟨(some 50), none, .mov (.t 0)⟩,
    ⟨(some 51), none, .mov (.t 9)⟩,
    ⟨(some 52), none, .iad 1 (.t 50) (.t 51)⟩,
    ⟨(some 53), none, .ld false 1 (.t 52)⟩,
    ⟨(some 8), none, .mov (.t 53)⟩] (some [0, 4, 5, 8, 9])) (.skip))))
   (.rg [⟨(some 34), none, .mov (.t 9)⟩,
    ⟨(some 35), none, .bin .add (.t 34) (.c (.int .i64 1))⟩,
    ⟨(some 9), none, .mov (.t 35)⟩] (some [0, 4, 5, 8, 9])))
def i_ref03_Of_l1 : IR := .loop b_ref03_Of_1
theorem r_ref03_Of_1 {C : Cx} {Y : Yl} {fr : Fr} {h : List Ob} : evw C Y i_ref03_Of_l1 fr h = nxt (evw C Y b_ref03_Of_1 fr h) fun fr h => evw C Y i_ref03_Of_l1 fr h := w_loop
def b_ref03_Of_2 : IR := .seq (.seq (.rg [⟨(some 29), none, .mov (.t 7)⟩] (some [0, 4, 5, 29]))
   (.cond (.t 29) (.skip) (.ext 2)))
   (.blk 3 (.seq (.rg [⟨(some 8), none, .mov (.c (.int .i64 2000000))⟩] (some [0, 4, 5, 8]))
   (.seq (.seq (.rg [⟨(some 9), none, .mov (.c (.int .i64 0))⟩] (some [0, 4, 5, 8, 9]))
   (.blk 4 (i_ref03_Of_l1)))
   (.seq (.rg [⟨(some 54), none, .mov (.t 8)⟩,
    ⟨(some 55), none, .bin .lss (.t 54) (.c (.int .i64 2000000))⟩,
    ⟨(some 7), none, .mov (.t 55)⟩] (some [0, 4, 7, 8]))
   (.seq (.seq (.rg [⟨(some 56), none, .mov (.t 7)⟩,
    ⟨(some 57), none, .mov (.t 56)⟩,
    ⟨(some 58), (some (57, true)), .mov (.t 4)⟩,
    ⟨(some 59), (some (57, true)), .len (.t 58)⟩,
    ⟨(some 60), (some (57, true)), .bin .gtr (.t 59) (.c (.int .i64 0))⟩,
    ⟨(some 61), none, .pick (.t 57) (.t 60) (.c (.bool false))⟩,
    ⟨(some 62), none, .mov (.t 61)⟩,
    ⟨(some 63), (some (62, true)), .mov (.t 4)⟩,
    ⟨(some 64), (some (62, true)), .mov (.t 4)⟩,
    ⟨(some 65), (some (62, true)), .len (.t 64)⟩,
    ⟨(some 66), (some (62, true)), .bin .sub (.t 65) (.c (.int .i64 1))⟩,
    ⟨(some 67), (some (62, true)), .iad 2 (.t 63) (.t 66)⟩,
    ⟨(some 68), (some (62, true)), .fad 1 (.t 67)⟩,
    ⟨(some 69), (some (62, true)), .ld false 1 (.t 68)⟩,
    ⟨(some 70), (some (62, true)), .bin .add (.t 69) (.c (.int .i64 1))⟩,
    ⟨(some 71), (some (62, true)), .mov (.t 8)⟩,
    ⟨(some 72), (some (62, true)), .bin .eql (.t 70) (.t 71)⟩,
    ⟨(some 73), none, .pick (.t 62) (.t 72) (.c (.bool false))⟩] (some [0, 4, 7, 8, 73]))
   (.cond (.t 73) (.rg [⟨(some 74), none, .mov (.t 4)⟩,
    ⟨(some 75), none, .mov (.t 4)⟩,
    ⟨(some 76), none, .len (.t 75)⟩,
    ⟨(some 77), none, .bin .sub (.t 76) (.c (.int .i64 1))⟩,
    ⟨(some 78), none, .mov (.t 8)⟩,
    ⟨(some 79), none, .iad 2 (.t 74) (.t 77)⟩,
    ⟨(some 80), none, .fad 1 (.t 79)⟩,
    ⟨none, none, .st 1 (.t 80) (.t 78)⟩] (some [0, 4, 7, 8])) (.seq (.rg [⟨(some 81), none, .mov (.t 7)⟩] (some [0, 4, 7, 8, 81]))
   (.cond (.t 81) (.rg [⟨(some 82), none, .mov (.t 4)⟩,
    ⟨(some 83), none, .mov (.t 8)⟩,
    ⟨(some 84), none, .mov (.t 8)⟩,
    ⟨(some 85), none, .bld [.int .i64 0, .int .i64 0] [(0, 1, (.t 83)), (1, 1, (.t 84))]⟩,
    ⟨(some 86), none, .bsf (.agg [.int .i64 0, .int .i64 0]) 1 [(0, (.t 85))]⟩,
    ⟨(some 87), none, .app 2 16 (.t 82) (.t 86)⟩,
    ⟨(some 4), none, .mov (.t 87)⟩] (some [0, 4, 7, 8])) (.skip)))))
   (.rg [⟨(some 88), none, .mov (.t 8)⟩,
    ⟨(some 5), none, .mov (.t 88)⟩] (some [0, 4, 5, 7])))))))
def i_ref03_Of_l2 : IR := .loop b_ref03_Of_2
theorem r_ref03_Of_2 {C : Cx} {Y : Yl} {fr : Fr} {h : List Ob} : evw C Y i_ref03_Of_l2 fr h = nxt (evw C Y b_ref03_Of_2 fr h) fun fr h => evw C Y i_ref03_Of_l2 fr h := w_loop
def i_ref03_Of : IR := .seq (.rg [⟨(some 2), none, .mov (.c (.nsl 2))⟩,
    ⟨(some 3), none, .mov (.c (.int .i64 0))⟩] (some [0]))
   (.seq (.rg [⟨(some 10), none, .bsl (.agg [.int .i64 0, .int .i64 0]) 0 []⟩,
    ⟨(some 4), none, .mov (.t 10)⟩] (some [0, 4]))
   (.seq (.rg [⟨(some 5), none, .mov (.c (.int .i64 (-2000000)))⟩] (some [0, 4, 5]))
   (.seq (.seq (.rg [⟨(some 6), none, .mov (.c (.int .i64 0))⟩] (some [0, 4, 5, 6]))
   (.blk 0 (i_ref03_Of_l0)))
   (.seq (.seq (.rg [⟨(some 7), none, .mov (.c (.bool true))⟩] (some [0, 4, 5, 7]))
   (.blk 2 (i_ref03_Of_l2)))
   (.seq (.rg [⟨(some 89), none, .mov (.t 4)⟩,
    ⟨(some 2), none, .mov (.t 89)⟩,
    ⟨(some 3), none, .mov (.c (.int .i64 0))⟩] (some [2, 3]))
   (.ret))))))
def F_ref03_Of : F := ⟨i_ref03_Of, [(2, none), (3, none)], false⟩
/-- stratagem/stratagemref03.Same -/
def b_ref03_Same_0 : IR := .seq (.seq (.rg [⟨(some 11), none, .mov (.t 5)⟩,
    ⟨(some 12), none, .mov (.t 0)⟩,
    ⟨(some 13), none, .len (.t 12)⟩,
    ⟨(some 14), none, .bin .lss (.t 11) (.t 13)⟩] (some [0, 1, 5, 14]))
   (.cond (.t 14) (.skip) (.ext 0)))
   (.seq (.blk 1 (.seq (.dq [(⟨(some 17), none, .mov (.t 0)⟩, []),
    (⟨(some 18), none, .mov (.t 5)⟩, []),
    (⟨(some 19), none, .iad 2 (.t 17) (.t 18)⟩, [0, 1]),
    (⟨(some 20), none, .ld true 2 (.t 19)⟩, [0, 1, 2]),
    (⟨(some 21), none, .mov (.t 1)⟩, []),
    (⟨(some 22), none, .mov (.t 5)⟩, []),
    (⟨(some 23), none, .iad 2 (.t 21) (.t 22)⟩, [4, 5]),
    (⟨(some 24), none, .ld true 2 (.t 23)⟩, [4, 5, 6]),
    (⟨(some 25), none, .eq true (.agg [(0, 1, .int), (1, 1, .int)]) (.t 20) (.t 24)⟩, [0, 1, 2, 3, 4, 5, 6, 7])] (some [0, 1, 5, 25]))
   (.cond (.t 25) (.seq (.rg [⟨(some 4), none, .mov (.c (.bool false))⟩] (some [4]))
   (.ret)) (.skip))))
   (.rg [⟨(some 15), none, .mov (.t 5)⟩,
    ⟨(some 16), none, .bin .add (.t 15) (.c (.int .i64 1))⟩,
    ⟨(some 5), none, .mov (.t 16)⟩] (some [0, 1, 5])))
def i_ref03_Same_l0 : IR := .loop b_ref03_Same_0
theorem r_ref03_Same_0 {C : Cx} {Y : Yl} {fr : Fr} {h : List Ob} : evw C Y i_ref03_Same_l0 fr h = nxt (evw C Y b_ref03_Same_0 fr h) fun fr h => evw C Y i_ref03_Same_l0 fr h := w_loop
def i_ref03_Same : IR := .seq (.rg [⟨(some 4), none, .mov (.c (.bool false))⟩] (some [0, 1]))
   (.seq (.seq (.rg [⟨(some 6), none, .mov (.t 0)⟩,
    ⟨(some 7), none, .len (.t 6)⟩,
    ⟨(some 8), none, .mov (.t 1)⟩,
    ⟨(some 9), none, .len (.t 8)⟩,
    ⟨(some 10), none, .bin .neq (.t 7) (.t 9)⟩] (some [0, 1, 10]))
   (.cond (.t 10) (.seq (.rg [⟨(some 4), none, .mov (.c (.bool false))⟩] (some [4]))
   (.ret)) (.skip)))
   (.seq (.seq (.rg [⟨(some 5), none, .mov (.c (.int .i64 0))⟩] (some [0, 1, 5]))
   (.blk 0 (i_ref03_Same_l0)))
   (.seq (.rg [⟨(some 4), none, .mov (.c (.bool true))⟩] (some [4]))
   (.ret))))
def F_ref03_Same : F := ⟨i_ref03_Same, [(4, none)], false⟩
/-- stratagem/spans.Union -/
def i_spans_Union : IR := .seq (.rg [⟨(some 4), none, .mov (.c (.nsl 2))⟩] (some [0, 1]))
   (.seq (.rg [⟨(some 5), none, .mov (.t 0)⟩,
    ⟨(some 6), none, .mov (.t 1)⟩,
    ⟨(some 7), none, .call n_spans_parts [(.t 5), (.t 6), (.c (.fn (.func n_spans_Union_1) [] []))]⟩,
    ⟨(some 4), none, .mov (.t 7)⟩] (some [4]))
   (.ret))
def F_spans_Union : F := ⟨i_spans_Union, [(4, none)], false⟩
/-- stratagem/spans.Meet -/
def i_spans_Meet : IR := .seq (.rg [⟨(some 4), none, .mov (.c (.nsl 2))⟩] (some [0, 1]))
   (.seq (.rg [⟨(some 5), none, .mov (.t 0)⟩,
    ⟨(some 6), none, .mov (.t 1)⟩,
    ⟨(some 7), none, .call n_spans_parts [(.t 5), (.t 6), (.c (.fn (.func n_spans_Meet_1) [] []))]⟩,
    ⟨(some 4), none, .mov (.t 7)⟩] (some [4]))
   (.ret))
def F_spans_Meet : F := ⟨i_spans_Meet, [(4, none)], false⟩
/-- stratagem/spans.Less -/
def i_spans_Less : IR := .seq (.rg [⟨(some 4), none, .mov (.c (.nsl 2))⟩] (some [0, 1]))
   (.seq (.rg [⟨(some 5), none, .mov (.t 0)⟩,
    ⟨(some 6), none, .mov (.t 1)⟩,
    ⟨(some 7), none, .call n_spans_parts [(.t 5), (.t 6), (.c (.fn (.func n_spans_Less_1) [] []))]⟩,
    ⟨(some 4), none, .mov (.t 7)⟩] (some [4]))
   (.ret))
def F_spans_Less : F := ⟨i_spans_Less, [(4, none)], false⟩
/-- stratagem/stratagemlaw03.few -/
def i_law03_few : IR := .seq (.rg [⟨(some 2), none, .mov (.c (.bool false))⟩] (some [0]))
   (.seq (.rg [⟨(some 3), none, .mov (.t 0)⟩,
    ⟨(some 4), none, .call n_ref03_Right [(.t 3)]⟩,
    ⟨(some 5), none, .mov (.t 4)⟩,
    ⟨(some 6), (some (5, true)), .mov (.t 0)⟩,
    ⟨(some 7), (some (5, true)), .call n_ref03_Size [(.t 6)]⟩,
    ⟨(some 8), (some (5, true)), .bin .leq (.t 7) (.c (.int .i64 400))⟩,
    ⟨(some 9), none, .pick (.t 5) (.t 8) (.c (.bool false))⟩,
    ⟨(some 2), none, .mov (.t 9)⟩] (some [2]))
   (.ret))
def F_law03_few : F := ⟨i_law03_few, [(2, none)], false⟩
/-- stratagem/stratagemref03.Values -/
def b_ref03_Values_0 : IR := .seq (.seq (.rg [⟨(some 18), none, .mov (.t 5)⟩,
    ⟨(some 19), none, .mov (.t 0)⟩,
    ⟨(some 20), none, .mov (.t 4)⟩,
    ⟨(some 21), none, .iad 2 (.t 19) (.t 20)⟩,
    ⟨(some 22), none, .fad 1 (.t 21)⟩,
    ⟨(some 23), none, .ld false 1 (.t 22)⟩,
    ⟨(some 24), none, .bin .leq (.t 18) (.t 23)⟩] (some [0, 3, 4, 5, 24]))
   (.cond (.t 24) (.skip) (.ext 2)))
   (.seq (.blk 3 (.rg [⟨(some 27), none, .mov (.t 3)⟩,
    ⟨(some 28), none, .mov (.t 5)⟩,
    ⟨(some 29), none, .bsf (.int .i64 0) 1 [(0, (.t 28))]⟩,
    ⟨(some 30), none, .app 1 8 (.t 27) (.t 29)⟩,
    ⟨(some 3), none, .mov (.t 30)⟩] (some [0, 3, 4, 5])))
   (.rg [⟨(some 25), none, .mov (.t 5)⟩,
    ⟨(some 26), none, .bin .add (.t 25) (.c (.int .i64 1))⟩,
    ⟨(some 5), none, .mov (.t 26)⟩] (some [0, 3, 4, 5])))
def i_ref03_Values_l0 : IR := .loop b_ref03_Values_0
theorem r_ref03_Values_0 {C : Cx} {Y : Yl} {fr : Fr} {h : List Ob} : evw C Y i_ref03_Values_l0 fr h = nxt (evw C Y b_ref03_Values_0 fr h) fun fr h => evw C Y i_ref03_Values_l0 fr h := w_loop
def b_ref03_Values_1 : IR := .seq (.seq (.rg [⟨(some 7), none, .mov (.t 4)⟩,
    ⟨(some 8), none, .mov (.t 0)⟩,
    ⟨(some 9), none, .len (.t 8)⟩,
    ⟨(some 10), none, .bin .lss (.t 7) (.t 9)⟩] (some [0, 3, 4, 10]))
   (.cond (.t 10) (.skip) (.ext 0)))
   (.seq (.blk 1 (.seq (.rg [⟨(some 13), none, .mov (.t 0)⟩,
    ⟨(some 14), none, .mov (.t 4)⟩,
    ⟨(some 15), none, .iad 2 (.t 13) (.t 14)⟩,
    ⟨(some 16), none, .fad 0 (.t 15)⟩,
    ⟨(some 17), none, .ld false 1 (.t 16)⟩,
    ⟨(some 5), none, .mov (.t 17)⟩] (some [0, 3, 4, 5]))
   (.blk 2 (i_ref03_Values_l0))))
   (.rg [⟨(some 11), none, .mov (.t 4)⟩,
    ⟨(some 12), none, .bin .add (.t 11) (.c (.int .i64 1))⟩,
    ⟨(some 4), none, .mov (.t 12)⟩] (some [0, 3, 4])))
def i_ref03_Values_l1 : IR := .loop b_ref03_Values_1
theorem r_ref03_Values_1 {C : Cx} {Y : Yl} {fr : Fr} {h : List Ob} : evw C Y i_ref03_Values_l1 fr h = nxt (evw C Y b_ref03_Values_1 fr h) fun fr h => evw C Y i_ref03_Values_l1 fr h := w_loop
def i_ref03_Values : IR := .seq (.rg [⟨(some 2), none, .mov (.c (.nsl 1))⟩] (some [0]))
   (.seq (.rg [⟨(some 6), none, .bsl (.int .i64 0) 0 []⟩,
    ⟨(some 3), none, .mov (.t 6)⟩] (some [0, 3]))
   (.seq (.seq (.rg [⟨(some 4), none, .mov (.c (.int .i64 0))⟩] (some [0, 3, 4]))
   (.blk 0 (i_ref03_Values_l1)))
   (.seq (.rg [⟨(some 31), none, .mov (.t 3)⟩,
    ⟨(some 2), none, .mov (.t 31)⟩] (some [2]))
   (.ret))))
def F_ref03_Values : F := ⟨i_ref03_Values, [(2, none)], true⟩
/-- slices.Sorted[int] -/
def i_slices_Sorted_int : IR := .seq (.rg [⟨(some 2), none, .mov (.c (.nsl 1))⟩] (some [0]))
   (.seq (.rg [⟨(some 4), none, .mov (.t 0)⟩,
    ⟨(some 5), none, .call n_slices_Collect_int [(.t 4)]⟩,
    ⟨(some 3), none, .mov (.t 5)⟩] (some [3]))
   (.seq (.rg [⟨(some 6), none, .mov (.t 3)⟩,
    ⟨(some 7), none, .call n_slices_Sort_sint_int [(.t 6)]⟩] (some [3]))
   (.seq (.rg [⟨(some 8), none, .mov (.t 3)⟩,
    ⟨(some 2), none, .mov (.t 8)⟩] (some [2]))
   (.ret))))
def F_slices_Sorted_int : F := ⟨i_slices_Sorted_int, [(2, none)], false⟩
/-- slices.Values[[]int,int] -/
def i_slices_Values_sint_int : IR := .seq (.rg [⟨(some 1), none, .box (.t 0)⟩,
    ⟨(some 2), none, .mov (.c (.nilf))⟩] (some [1]))
   (.seq (.rg [⟨(some 3), none, .mkf (.func n_slices_Values_sint_int_1) [] [(.t 1)]⟩,
    ⟨(some 2), none, .mov (.t 3)⟩] (some [2]))
   (.ret))
def F_slices_Values_sint_int : F := ⟨i_slices_Values_sint_int, [(2, none)], false⟩
/-- stratagem/spans.put -/
def i_spans_put : IR := .seq (.rg [⟨(some 3), none, .box (.t 1)⟩,
    ⟨(some 4), none, .mov (.c (.nsl 2))⟩] (some [0, 3]))
   (.seq (.seq (.rg [⟨(some 6), none, .mov (.t 0)⟩,
    ⟨(some 7), none, .len (.t 6)⟩,
    ⟨(some 5), none, .mov (.t 7)⟩] (some [0, 3, 5]))
   (.seq (.dq [(⟨(some 8), none, .mov (.t 5)⟩, []),
    (⟨(some 9), none, .bin .gtr (.t 8) (.c (.int .i64 0))⟩, [0]),
    (⟨(some 10), none, .mov (.t 9)⟩, [0, 1]),
    (⟨(some 11), (some (10, true)), .fad 0 (.t 3)⟩, [0, 1, 2]),
    (⟨(some 12), (some (10, true)), .ld false 1 (.t 11)⟩, [0, 1, 2, 3]),
    (⟨(some 13), (some (10, true)), .mov (.t 0)⟩, [0, 1, 2]),
    (⟨(some 14), (some (10, true)), .mov (.t 5)⟩, [0, 1, 2]),
    (⟨(some 15), (some (10, true)), .bin .sub (.t 14) (.c (.int .i64 1))⟩, [0, 1, 2, 6]),
    (⟨(some 16), (some (10, true)), .iad 2 (.t 13) (.t 15)⟩, [0, 1, 2, 5, 6, 7]),
    (⟨(some 17), (some (10, true)), .fad 1 (.t 16)⟩, [0, 1, 2, 5, 6, 7, 8]),
    (⟨(some 18), (some (10, true)), .ld false 1 (.t 17)⟩, [0, 1, 2, 5, 6, 7, 8, 9]),
    (⟨(some 19), (some (10, true)), .bin .add (.t 18) (.c (.int .i64 1))⟩, [0, 1, 2, 5, 6, 7, 8, 9, 10]),
    (⟨(some 20), (some (10, true)), .bin .leq (.t 12) (.t 19)⟩, [0, 1, 2, 3, 4, 5, 6, 7, 8, 9, 10, 11]),
    (⟨(some 21), none, .pick (.t 10) (.t 20) (.c (.bool false))⟩, [0, 1, 2, 3, 4, 5, 6, 7, 8, 9, 10, 11, 12])] (some [0, 3, 5, 21]))
   (.cond (.t 21) (.seq (.dq [(⟨(some 22), none, .mov (.t 0)⟩, []),
    (⟨(some 23), none, .mov (.t 5)⟩, []),
    (⟨(some 24), none, .bin .sub (.t 23) (.c (.int .i64 1))⟩, [1]),
    (⟨(some 25), none, .mov (.t 0)⟩, []),
    (⟨(some 26), none, .mov (.t 5)⟩, []),
    (⟨(some 27), none, .bin .sub (.t 26) (.c (.int .i64 1))⟩, [4]),
    (⟨(some 28), none, .iad 2 (.t 25) (.t 27)⟩, [3, 4, 5]),
    (⟨(some 29), none, .fad 1 (.t 28)⟩, [3, 4, 5, 6]),
    (⟨(some 30), none, .ld false 1 (.t 29)⟩, [3, 4, 5, 6, 7]),
    (⟨(some 31), none, .fad 1 (.t 3)⟩, []),
    (⟨(some 32), none, .ld false 1 (.t 31)⟩, [9]),
    (⟨(some 33), none, .mxn true [(.t 30), (.t 32)]⟩, [3, 4, 5, 6, 7, 8, 9, 10]),
    (⟨(some 34), none, .iad 2 (.t 22) (.t 24)⟩, [0, 1, 2, 3, 4, 5, 6, 7, 8, 9, 10, 11]),
    (⟨(some 35), none, .fad 1 (.t 34)⟩, [0, 1, 2, 3, 4, 5, 6, 7, 8, 9, 10, 11, 12]),
    (⟨none, none, .st 1 (.t 35) (.t 33)⟩, [0, 1, 2, 3, 4, 5, 6, 7, 8, 9, 10, 11, 12, 13])] (some [0]))
   (.seq (.rg [⟨(some 36), none, .mov (.t 0)⟩,
    ⟨(some 4), none, .mov (.t 36)⟩] (some [4]))
   (.ret))) (.skip))))
   (.seq (.rg [⟨(some 37), none, .mov (.t 0)⟩,
    ⟨(some 38), none, .ld true 2 (.t 3)⟩,
    ⟨(some 39), none, .bsf (.agg [.int .i64 0, .int .i64 0]) 1 [(0, (.t 38))]⟩,
    ⟨(some 40), none, .app 2 16 (.t 37) (.t 39)⟩,
    ⟨(some 4), none, .mov (.t 40)⟩] (some [4]))
   (.ret)))
def F_spans_put : F := ⟨i_spans_put, [(4, none)], true⟩
/-- stratagem/spans.parts -/
def b_spans_parts_0 : IR := .seq (.rg [⟨(some 27), none, .bin .lss (.t 26) (.t 25)⟩] (some [0, 1, 2, 7, 24, 25, 26, 27]))
   (.seq (.cond (.t 27) (.skip) (.ext 0))
   (.seq (.blk 1 (.seq (.rg [⟨(some 28), none, .iad 2 (.t 24) (.t 26)⟩,
    ⟨(some 29), none, .ld true 2 (.t 28)⟩,
    ⟨(some 9), none, .new (.agg [.int .i64 0, .int .i64 0])⟩,
    ⟨none, none, .st 2 (.t 9) (.t 29)⟩] (some [0, 1, 2, 7, 9, 24, 25, 26]))
   (.rg [⟨(some 30), none, .mov (.t 7)⟩,
    ⟨(some 31), none, .fad 0 (.t 9)⟩,
    ⟨(some 32), none, .ld false 1 (.t 31)⟩,
    ⟨(some 33), none, .fad 1 (.t 9)⟩,
    ⟨(some 34), none, .ld false 1 (.t 33)⟩,
    ⟨(some 35), none, .bin .add (.t 34) (.c (.int .i64 1))⟩,
    ⟨(some 36), none, .bsf (.int .i64 0) 2 [(0, (.t 32)), (1, (.t 35))]⟩,
    ⟨(some 37), none, .app 1 8 (.t 30) (.t 36)⟩,
    ⟨(some 7), none, .mov (.t 37)⟩] (some [0, 1, 2, 7, 24, 25, 26]))))
   (.rg [⟨(some 38), none, .bin .add (.t 26) (.c (.int .i64 1))⟩,
    ⟨(some 26), none, .mov (.t 38)⟩] (some [0, 1, 2, 7, 24, 25, 26]))))
def i_spans_parts_l0 : IR := .loop b_spans_parts_0
theorem r_spans_parts_0 {C : Cx} {Y : Yl} {fr : Fr} {h : List Ob} : evw C Y i_spans_parts_l0 fr h = nxt (evw C Y b_spans_parts_0 fr h) fun fr h => evw C Y i_spans_parts_l0 fr h := w_loop
def b_spans_parts_1 : IR := .seq (.rg [⟨(some 46), none, .bin .lss (.t 45) (.t 44)⟩] (some [0, 1, 2, 7, 10, 43, 44, 45, 46]))
   (.seq (.cond (.t 46) (.skip) (.ext 2))
   (.seq (.blk 3 (.seq (.rg [⟨(some 47), none, .mov (.t 45)⟩,
    ⟨(some 48), none, .iad 1 (.t 43) (.t 45)⟩,
    ⟨(some 49), none, .ld false 1 (.t 48)⟩,
    ⟨(some 11), none, .mov (.t 47)⟩,
    ⟨(some 12), none, .mov (.t 49)⟩] (some [0, 1, 2, 7, 10, 11, 12, 43, 44, 45]))
   (.seq (.rg [⟨(some 50), none, .mov (.t 11)⟩,
    ⟨(some 51), none, .bin .add (.t 50) (.c (.int .i64 1))⟩,
    ⟨(some 52), none, .mov (.t 7)⟩,
    ⟨(some 53), none, .len (.t 52)⟩,
    ⟨(some 54), none, .bin .lss (.t 51) (.t 53)⟩,
    ⟨(some 55), none, .mov (.t 54)⟩,
    ⟨(some 56), (some (55, true)), .mov (.t 2)⟩,
    ⟨(some 57), (some (55, true)), .mov (.t 0)⟩,
    ⟨(some 58), (some (55, true)), .mov (.t 12)⟩,
    ⟨(some 59), (some (55, true)), .call n_spans_Has [(.t 57), (.t 58)]⟩,
    ⟨(some 60), (some (55, true)), .mov (.t 1)⟩,
    ⟨(some 61), (some (55, true)), .mov (.t 12)⟩,
    ⟨(some 62), (some (55, true)), .call n_spans_Has [(.t 60), (.t 61)]⟩,
    ⟨(some 63), (some (55, true)), .callv (.t 56) [(.t 59), (.t 62)]⟩,
    ⟨(some 64), none, .pick (.t 55) (.t 63) (.c (.bool false))⟩] (some [0, 1, 2, 7, 10, 11, 12, 43, 44, 45, 64]))
   (.cond (.t 64) (.rg [⟨(some 65), none, .mov (.t 10)⟩,
    ⟨(some 66), none, .mov (.t 12)⟩,
    ⟨(some 67), none, .mov (.t 7)⟩,
    ⟨(some 68), none, .mov (.t 11)⟩,
    ⟨(some 69), none, .bin .add (.t 68) (.c (.int .i64 1))⟩,
    ⟨(some 70), none, .iad 1 (.t 67) (.t 69)⟩,
    ⟨(some 71), none, .ld false 1 (.t 70)⟩,
    ⟨(some 72), none, .bin .sub (.t 71) (.c (.int .i64 1))⟩,
    ⟨(some 73), none, .bld [.int .i64 0, .int .i64 0] [(0, 1, (.t 66)), (1, 1, (.t 72))]⟩,
    ⟨(some 74), none, .call n_spans_put [(.t 65), (.t 73)]⟩,
    ⟨(some 10), none, .mov (.t 74)⟩] (some [0, 1, 2, 7, 10, 43, 44, 45])) (.skip)))))
   (.rg [⟨(some 75), none, .bin .add (.t 45) (.c (.int .i64 1))⟩,
    ⟨(some 45), none, .mov (.t 75)⟩] (some [0, 1, 2, 7, 10, 43, 44, 45]))))
def i_spans_parts_l1 : IR := .loop b_spans_parts_1
theorem r_spans_parts_1 {C : Cx} {Y : Yl} {fr : Fr} {h : List Ob} : evw C Y i_spans_parts_l1 fr h = nxt (evw C Y b_spans_parts_1 fr h) fun fr h => evw C Y i_spans_parts_l1 fr h := w_loop
def i_spans_parts : IR := .seq (.rg [⟨(some 6), none, .mov (.c (.nsl 2))⟩] (some [0, 1, 2]))
   (.seq (.seq (.rg [⟨(some 13), none, .mov (.t 0)⟩,
    ⟨(some 14), none, .call n_spans_Right [(.t 13)]⟩,
    ⟨(some 15), none, .un .not (.t 14)⟩,
    ⟨(some 16), none, .mov (.t 15)⟩,
    ⟨(some 17), (some (16, false)), .mov (.t 1)⟩,
    ⟨(some 18), (some (16, false)), .call n_spans_Right [(.t 17)]⟩,
    ⟨(some 19), (some (16, false)), .un .not (.t 18)⟩,
    ⟨(some 20), none, .pick (.t 16) (.c (.bool true)) (.t 19)⟩] (some [0, 1, 2, 20]))
   (.cond (.t 20) (.seq (.rg [⟨(some 6), none, .mov (.c (.nsl 2))⟩] (some [6]))
   (.ret)) (.skip)))
   (.seq (.rg [⟨(some 7), none, .mov (.c (.nsl 1))⟩] (some [0, 1, 2, 7]))
   (.seq (.seq (.rg [⟨(some 21), none, .mov (.t 0)⟩,
    ⟨(some 22), none, .mov (.t 1)⟩,
    ⟨(some 23), none, .bsf (.nsl 2) 2 [(0, (.t 21)), (1, (.t 22))]⟩,
    ⟨(some 24), none, .call n_slices_Concat_sapi_Span_api_Span [(.t 23)]⟩,
    ⟨(some 25), none, .len (.t 24)⟩,
    ⟨(some 26), none, .mov (.c (.int .i64 0))⟩] (some [0, 1, 2, 7, 24, 25, 26]))
   (.blk 0 (i_spans_parts_l0)))
   (.seq (.rg [⟨(some 39), none, .mov (.t 7)⟩,
    ⟨(some 40), none, .call n_slices_Sort_sint_int [(.t 39)]⟩] (some [0, 1, 2, 7]))
   (.seq (.rg [⟨(some 41), none, .mov (.t 7)⟩,
    ⟨(some 42), none, .call n_slices_Compact_sint_int [(.t 41)]⟩,
    ⟨(some 7), none, .mov (.t 42)⟩] (some [0, 1, 2, 7]))
   (.seq (.rg [⟨(some 10), none, .mov (.c (.nsl 2))⟩] (some [0, 1, 2, 7, 10]))
   (.seq (.seq (.rg [⟨(some 43), none, .mov (.t 7)⟩,
    ⟨(some 44), none, .len (.t 43)⟩,
    ⟨(some 45), none, .mov (.c (.int .i64 0))⟩] (some [0, 1, 2, 7, 10, 43, 44, 45]))
   (.blk 2 (i_spans_parts_l1)))
   (.seq (.rg [⟨(some 76), none, .mov (.t 10)⟩,
    ⟨(some 6), none, .mov (.t 76)⟩] (some [6]))
   (.ret)))))))))
def F_spans_parts : F := ⟨i_spans_parts, [(6, none)], false⟩
/-- stratagem/spans.Union$1 -/
def i_spans_Union_1 : IR := .seq (.rg [⟨(some 4), none, .mov (.c (.bool false))⟩] (some [0, 1]))
   (.seq (.rg [⟨(some 5), none, .mov (.t 0)⟩,
    ⟨(some 6), none, .mov (.t 5)⟩,
    ⟨(some 7), (some (6, false)), .mov (.t 1)⟩,
    ⟨(some 8), none, .pick (.t 6) (.c (.bool true)) (.t 7)⟩,
    ⟨(some 4), none, .mov (.t 8)⟩] (some [4]))
   (.ret))
def F_spans_Union_1 : F := ⟨i_spans_Union_1, [(4, none)], false⟩
/-- stratagem/spans.Meet$1 -/
def i_spans_Meet_1 : IR := .seq (.rg [⟨(some 4), none, .mov (.c (.bool false))⟩] (some [0, 1]))
   (.seq (.rg [⟨(some 5), none, .mov (.t 0)⟩,
    ⟨(some 6), none, .mov (.t 5)⟩,
    ⟨(some 7), (some (6, true)), .mov (.t 1)⟩,
    ⟨(some 8), none, .pick (.t 6) (.t 7) (.c (.bool false))⟩,
    ⟨(some 4), none, .mov (.t 8)⟩] (some [4]))
   (.ret))
def F_spans_Meet_1 : F := ⟨i_spans_Meet_1, [(4, none)], false⟩
/-- stratagem/spans.Less$1 -/
def i_spans_Less_1 : IR := .seq (.rg [⟨(some 4), none, .mov (.c (.bool false))⟩] (some [0, 1]))
   (.seq (.rg [⟨(some 5), none, .mov (.t 0)⟩,
    ⟨(some 6), none, .mov (.t 5)⟩,
    ⟨(some 7), (some (6, true)), .mov (.t 1)⟩,
    ⟨(some 8), (some (6, true)), .un .not (.t 7)⟩,
    ⟨(some 9), none, .pick (.t 6) (.t 8) (.c (.bool false))⟩,
    ⟨(some 4), none, .mov (.t 9)⟩] (some [4]))
   (.ret))
def F_spans_Less_1 : F := ⟨i_spans_Less_1, [(4, none)], false⟩
/-- slices.Collect[int] -/
def i_slices_Collect_int : IR := .seq (.rg [⟨(some 2), none, .mov (.c (.nsl 1))⟩] (some [0]))
   (.seq (.rg [⟨(some 3), none, .mov (.t 0)⟩,
    ⟨(some 4), none, .call n_slices_AppendSeq_sint_int [(.c (.nsl 1)), (.t 3)]⟩,
    ⟨(some 2), none, .mov (.t 4)⟩] (some [2]))
   (.ret))
def F_slices_Collect_int : F := ⟨i_slices_Collect_int, [(2, none)], true⟩
/-- slices.Values[[]int,int]$1 -/
def b_slices_Values_sint_int_1_0 : IR := .seq (.rg [⟨(some 8), none, .bin .lss (.t 7) (.t 6)⟩] (some [0, 5, 6, 7, 8]))
   (.seq (.cond (.t 8) (.skip) (.ext 0))
   (.seq (.blk 1 (.seq (.rg [⟨(some 9), none, .iad 1 (.t 5) (.t 7)⟩,
    ⟨(some 10), none, .ld false 1 (.t 9)⟩,
    ⟨(some 4), none, .mov (.t 10)⟩] (some [0, 4, 5, 6, 7]))
   (.seq (.rg [⟨(some 11), none, .mov (.t 0)⟩,
    ⟨(some 12), none, .mov (.t 4)⟩,
    ⟨(some 13), none, .callv (.t 11) [(.t 12)]⟩,
    ⟨(some 14), none, .un .not (.t 13)⟩] (some [0, 5, 6, 7, 14]))
   (.cond (.t 14) (.ret) (.skip)))))
   (.rg [⟨(some 15), none, .bin .add (.t 7) (.c (.int .i64 1))⟩,
    ⟨(some 7), none, .mov (.t 15)⟩] (some [0, 5, 6, 7]))))
def i_slices_Values_sint_int_1_l0 : IR := .loop b_slices_Values_sint_int_1_0
theorem r_slices_Values_sint_int_1_0 {C : Cx} {Y : Yl} {fr : Fr} {h : List Ob} : evw C Y i_slices_Values_sint_int_1_l0 fr h = nxt (evw C Y b_slices_Values_sint_int_1_0 fr h) fun fr h => evw C Y i_slices_Values_sint_int_1_l0 fr h := w_loop
def i_slices_Values_sint_int_1 : IR := .seq (.rg [⟨(some 5), none, .ld false 1 (.t 1)⟩,
    ⟨(some 6), none, .len (.t 5)⟩,
    ⟨(some 7), none, .mov (.c (.int .i64 0))⟩] (some [0, 5, 6, 7]))
   (.blk 0 (i_slices_Values_sint_int_1_l0))
def F_slices_Values_sint_int_1 : F := ⟨i_slices_Values_sint_int_1, [], true⟩
/-- slices.Concat[[]stratagem/api.Span,stratagem/api.Span] -/
def b_slices_Concat_sapi_Span_api_Span_0 : IR := .seq (.rg [⟨(some 12), none, .bin .lss (.t 11) (.t 10)⟩] (some [0, 3, 9, 10, 11, 12]))
   (.seq (.cond (.t 12) (.skip) (.ext 0))
   (.seq (.blk 1 (.seq (.rg [⟨(some 13), none, .iad 1 (.t 9) (.t 11)⟩,
    ⟨(some 14), none, .ld false 1 (.t 13)⟩,
    ⟨(some 5), none, .mov (.t 14)⟩] (some [0, 3, 5, 9, 10, 11]))
   (.seq (.rg [⟨(some 15), none, .mov (.t 3)⟩,
    ⟨(some 16), none, .mov (.t 5)⟩,
    ⟨(some 17), none, .len (.t 16)⟩,
    ⟨(some 18), none, .bin .add (.t 15) (.t 17)⟩,
    ⟨(some 3), none, .mov (.t 18)⟩] (some [0, 3, 9, 10, 11]))
   (.seq (.rg [⟨(some 19), none, .mov (.t 3)⟩,
    ⟨(some 20), none, .bin .lss (.t 19) (.c (.int .i64 0))⟩] (some [0, 3, 9, 10, 11, 20]))
   (.cond (.t 20) (.rg [⟨(some 21), none, .mki 9 (.c (.str [108, 101, 110, 32, 111, 117, 116, 32, 111, 102, 32, 114, 97, 110, 103, 101]))⟩,
    ⟨none, none, .pan (.t 21)⟩] (some [0, 3, 9, 10, 11])) (.skip))))))
   (.rg [⟨(some 22), none, .bin .add (.t 11) (.c (.int .i64 1))⟩,
    ⟨(some 11), none, .mov (.t 22)⟩] (some [0, 3, 9, 10, 11]))))
def i_slices_Concat_sapi_Span_api_Span_l0 : IR := .loop b_slices_Concat_sapi_Span_api_Span_0
theorem r_slices_Concat_sapi_Span_api_Span_0 {C : Cx} {Y : Yl} {fr : Fr} {h : List Ob} : evw C Y i_slices_Concat_sapi_Span_api_Span_l0 fr h = nxt (evw C Y b_slices_Concat_sapi_Span_api_Span_0 fr h) fun fr h => evw C Y i_slices_Concat_sapi_Span_api_Span_l0 fr h := w_loop
def b_slices_Concat_sapi_Span_api_Span_1 : IR := .seq (.rg [⟨(some 28), none, .bin .lss (.t 27) (.t 26)⟩] (some [6, 25, 26, 27, 28]))
   (.seq (.cond (.t 28) (.skip) (.ext 2))
   (.seq (.blk 3 (.seq (.rg [⟨(some 29), none, .iad 1 (.t 25) (.t 27)⟩,
    ⟨(some 30), none, .ld false 1 (.t 29)⟩,
    ⟨(some 8), none, .mov (.t 30)⟩] (some [6, 8, 25, 26, 27]))
   (.rg [⟨(some 31), none, .mov (.t 6)⟩,
    ⟨(some 32), none, .mov (.t 8)⟩,
    ⟨(some 33), none, .app 2 16 (.t 31) (.t 32)⟩,
    ⟨(some 6), none, .mov (.t 33)⟩] (some [6, 25, 26, 27]))))
   (.rg [⟨(some 34), none, .bin .add (.t 27) (.c (.int .i64 1))⟩,
    ⟨(some 27), none, .mov (.t 34)⟩] (some [6, 25, 26, 27]))))
def i_slices_Concat_sapi_Span_api_Span_l1 : IR := .loop b_slices_Concat_sapi_Span_api_Span_1
theorem r_slices_Concat_sapi_Span_api_Span_1 {C : Cx} {Y : Yl} {fr : Fr} {h : List Ob} : evw C Y i_slices_Concat_sapi_Span_api_Span_l1 fr h = nxt (evw C Y b_slices_Concat_sapi_Span_api_Span_1 fr h) fun fr h => evw C Y i_slices_Concat_sapi_Span_api_Span_l1 fr h := w_loop
def i_slices_Concat_sapi_Span_api_Span : IR := .seq (.rg [⟨(some 2), none, .mov (.c (.nsl 2))⟩] (some [0]))
   (.seq (.rg [⟨(some 3), none, .mov (.c (.int .i64 0))⟩] (some [0, 3]))
   (.seq (.seq (.rg [⟨(some 9), none, .mov (.t 0)⟩,
    ⟨(some 10), none, .len (.t 9)⟩,
    ⟨(some 11), none, .mov (.c (.int .i64 0))⟩] (some [0, 3, 9, 10, 11]))
   (.blk 0 (i_slices_Concat_sapi_Span_api_Span_l0)))
   (.seq (.rg [⟨(some 23), none, .mov (.t 3)⟩,
    ⟨(some 24), none, .call n_slices_Grow_sapi_Span_api_Span [(.c (.nsl 2)), (.t 23)]⟩,
    ⟨(some 6), none, .mov (.t 24)⟩] (some [0, 6]))
   (.seq (.seq (.rg [⟨(some 25), none, .mov (.t 0)⟩,
    ⟨(some 26), none, .len (.t 25)⟩,
    ⟨(some 27), none, .mov (.c (.int .i64 0))⟩] (some [6, 25, 26, 27]))
   (.blk 2 (i_slices_Concat_sapi_Span_api_Span_l1)))
   (.seq (.rg [⟨(some 35), none, .mov (.t 6)⟩,
    ⟨(some 2), none, .mov (.t 35)⟩] (some [2]))
   (.ret))))))
def F_slices_Concat_sapi_Span_api_Span : F := ⟨i_slices_Concat_sapi_Span_api_Span, [(2, none)], false⟩
/-- slices.AppendSeq[[]int,int] -/
def ra_slices_AppendSeq_sint_int_0 : IR := .rg [⟨(some 5), none, .mov (.t 7)⟩] (some [2, 5])
def rb_slices_AppendSeq_sint_int_0 : IR := .blk 1 (.rg [⟨(some 8), none, .ld false 1 (.t 2)⟩,
    ⟨(some 9), none, .mov (.t 5)⟩,
    ⟨(some 10), none, .bsf (.int .i64 0) 1 [(0, (.t 9))]⟩,
    ⟨(some 11), none, .app 1 8 (.t 8) (.t 10)⟩,
    ⟨none, none, .st 1 (.t 2) (.t 11)⟩] (some []))
def i_slices_AppendSeq_sint_int : IR := .seq (.rg [⟨(some 2), none, .box (.t 0)⟩,
    ⟨(some 4), none, .mov (.c (.nsl 1))⟩] (some [1, 2, 4]))
   (.seq (.seq (.rg [⟨(some 6), none, .mov (.t 1)⟩] (some [2, 4, 6]))
   (.blk 0 (.rf (.t 6) [7] ra_slices_AppendSeq_sint_int_0 rb_slices_AppendSeq_sint_int_0)))
   (.seq (.rg [⟨(some 12), none, .ld false 1 (.t 2)⟩,
    ⟨(some 4), none, .mov (.t 12)⟩] (some [4]))
   (.ret)))
def F_slices_AppendSeq_sint_int : F := ⟨i_slices_AppendSeq_sint_int, [(4, none)], true⟩
theorem ok_law03_SpansTells : mF Go.Proofs.Try.prog n_law03_SpansTells F_law03_SpansTells = true := by kernel_rfl
theorem ok_law03_SpansSets : mF Go.Proofs.Try.prog n_law03_SpansSets F_law03_SpansSets = true := by kernel_rfl
theorem ok_law03_SpansOne : mF Go.Proofs.Try.prog n_law03_SpansOne F_law03_SpansOne = true := by kernel_rfl
theorem ok_law03_awake : mF Go.Proofs.Try.prog n_law03_awake F_law03_awake = true := by kernel_rfl
theorem ok_ref03_Right : mF Go.Proofs.Try.prog n_ref03_Right F_ref03_Right = true := by kernel_rfl
theorem ok_spans_At : mF Go.Proofs.Try.prog n_spans_At F_spans_At = true := by kernel_rfl
theorem ok_spans_Right : mF Go.Proofs.Try.prog n_spans_Right F_spans_Right = true := by kernel_rfl
theorem ok_spans_Size : mF Go.Proofs.Try.prog n_spans_Size F_spans_Size = true := by kernel_rfl
theorem ok_ref03_Size : mF Go.Proofs.Try.prog n_ref03_Size F_ref03_Size = true := by kernel_rfl
theorem ok_spans_Has : mF Go.Proofs.Try.prog n_spans_Has F_spans_Has = true := by kernel_rfl
theorem ok_ref03_In : mF Go.Proofs.Try.prog n_ref03_In F_ref03_In = true := by kernel_rfl
theorem ok_spans_Place : mF Go.Proofs.Try.prog n_spans_Place F_spans_Place = true := by kernel_rfl
theorem ok_ref03_Place : mF Go.Proofs.Try.prog n_ref03_Place F_ref03_Place = true := by kernel_rfl
theorem ok_spans_Of : mF Go.Proofs.Try.prog n_spans_Of F_spans_Of = true := by kernel_rfl
theorem ok_ref03_Of : mF Go.Proofs.Try.prog n_ref03_Of F_ref03_Of = true := by kernel_rfl
theorem ok_ref03_Same : mF Go.Proofs.Try.prog n_ref03_Same F_ref03_Same = true := by kernel_rfl
theorem ok_spans_Union : mF Go.Proofs.Try.prog n_spans_Union F_spans_Union = true := by kernel_rfl
theorem ok_spans_Meet : mF Go.Proofs.Try.prog n_spans_Meet F_spans_Meet = true := by kernel_rfl
theorem ok_spans_Less : mF Go.Proofs.Try.prog n_spans_Less F_spans_Less = true := by kernel_rfl
theorem ok_law03_few : mF Go.Proofs.Try.prog n_law03_few F_law03_few = true := by kernel_rfl
theorem ok_ref03_Values : mF Go.Proofs.Try.prog n_ref03_Values F_ref03_Values = true := by kernel_rfl
theorem ok_slices_Sorted_int : mF Go.Proofs.Try.prog n_slices_Sorted_int F_slices_Sorted_int = true := by kernel_rfl
theorem ok_slices_Values_sint_int : mF Go.Proofs.Try.prog n_slices_Values_sint_int F_slices_Values_sint_int = true := by kernel_rfl
theorem ok_spans_put : mF Go.Proofs.Try.prog n_spans_put F_spans_put = true := by kernel_rfl
theorem ok_spans_parts : mF Go.Proofs.Try.prog n_spans_parts F_spans_parts = true := by kernel_rfl
theorem ok_spans_Union_1 : mF Go.Proofs.Try.prog n_spans_Union_1 F_spans_Union_1 = true := by kernel_rfl
theorem ok_spans_Meet_1 : mF Go.Proofs.Try.prog n_spans_Meet_1 F_spans_Meet_1 = true := by kernel_rfl
theorem ok_spans_Less_1 : mF Go.Proofs.Try.prog n_spans_Less_1 F_spans_Less_1 = true := by kernel_rfl
theorem ok_slices_Collect_int : mF Go.Proofs.Try.prog n_slices_Collect_int F_slices_Collect_int = true := by kernel_rfl
theorem ok_slices_Values_sint_int_1 : mF Go.Proofs.Try.prog n_slices_Values_sint_int_1 F_slices_Values_sint_int_1 = true := by kernel_rfl
theorem ok_slices_Concat_sapi_Span_api_Span : mF Go.Proofs.Try.prog n_slices_Concat_sapi_Span_api_Span F_slices_Concat_sapi_Span_api_Span = true := by kernel_rfl
theorem ok_slices_AppendSeq_sint_int : mF Go.Proofs.Try.prog n_slices_AppendSeq_sint_int F_slices_AppendSeq_sint_int = true := by kernel_rfl
def tbl : List (Nat × F) := [(n_law03_SpansTells, F_law03_SpansTells), (n_law03_SpansSets, F_law03_SpansSets), (n_law03_SpansOne, F_law03_SpansOne), (n_law03_awake, F_law03_awake), (n_ref03_Right, F_ref03_Right), (n_spans_At, F_spans_At), (n_spans_Right, F_spans_Right), (n_spans_Size, F_spans_Size), (n_ref03_Size, F_ref03_Size), (n_spans_Has, F_spans_Has), (n_ref03_In, F_ref03_In), (n_spans_Place, F_spans_Place), (n_ref03_Place, F_ref03_Place), (n_spans_Of, F_spans_Of), (n_ref03_Of, F_ref03_Of), (n_ref03_Same, F_ref03_Same), (n_spans_Union, F_spans_Union), (n_spans_Meet, F_spans_Meet), (n_spans_Less, F_spans_Less), (n_law03_few, F_law03_few), (n_ref03_Values, F_ref03_Values), (n_slices_Sorted_int, F_slices_Sorted_int), (n_slices_Values_sint_int, F_slices_Values_sint_int), (n_spans_put, F_spans_put), (n_spans_parts, F_spans_parts), (n_spans_Union_1, F_spans_Union_1), (n_spans_Meet_1, F_spans_Meet_1), (n_spans_Less_1, F_spans_Less_1), (n_slices_Collect_int, F_slices_Collect_int), (n_slices_Values_sint_int_1, F_slices_Values_sint_int_1), (n_slices_Concat_sapi_Span_api_Span, F_slices_Concat_sapi_Span_api_Span), (n_slices_AppendSeq_sint_int, F_slices_AppendSeq_sint_int)]
def T (n : Nat) : Option F := (tbl.find? fun p => p.1 == n).map (·.2)
theorem T_law03_SpansTells : T n_law03_SpansTells = some F_law03_SpansTells := rfl
theorem T_law03_SpansSets : T n_law03_SpansSets = some F_law03_SpansSets := rfl
theorem T_law03_SpansOne : T n_law03_SpansOne = some F_law03_SpansOne := rfl
theorem T_law03_awake : T n_law03_awake = some F_law03_awake := rfl
theorem T_ref03_Right : T n_ref03_Right = some F_ref03_Right := rfl
theorem T_spans_At : T n_spans_At = some F_spans_At := rfl
theorem T_spans_Right : T n_spans_Right = some F_spans_Right := rfl
theorem T_spans_Size : T n_spans_Size = some F_spans_Size := rfl
theorem T_ref03_Size : T n_ref03_Size = some F_ref03_Size := rfl
theorem T_spans_Has : T n_spans_Has = some F_spans_Has := rfl
theorem T_ref03_In : T n_ref03_In = some F_ref03_In := rfl
theorem T_spans_Place : T n_spans_Place = some F_spans_Place := rfl
theorem T_ref03_Place : T n_ref03_Place = some F_ref03_Place := rfl
theorem T_spans_Of : T n_spans_Of = some F_spans_Of := rfl
theorem T_ref03_Of : T n_ref03_Of = some F_ref03_Of := rfl
theorem T_ref03_Same : T n_ref03_Same = some F_ref03_Same := rfl
theorem T_spans_Union : T n_spans_Union = some F_spans_Union := rfl
theorem T_spans_Meet : T n_spans_Meet = some F_spans_Meet := rfl
theorem T_spans_Less : T n_spans_Less = some F_spans_Less := rfl
theorem T_law03_few : T n_law03_few = some F_law03_few := rfl
theorem T_ref03_Values : T n_ref03_Values = some F_ref03_Values := rfl
theorem T_slices_Sorted_int : T n_slices_Sorted_int = some F_slices_Sorted_int := rfl
theorem T_slices_Values_sint_int : T n_slices_Values_sint_int = some F_slices_Values_sint_int := rfl
theorem T_spans_put : T n_spans_put = some F_spans_put := rfl
theorem T_spans_parts : T n_spans_parts = some F_spans_parts := rfl
theorem T_spans_Union_1 : T n_spans_Union_1 = some F_spans_Union_1 := rfl
theorem T_spans_Meet_1 : T n_spans_Meet_1 = some F_spans_Meet_1 := rfl
theorem T_spans_Less_1 : T n_spans_Less_1 = some F_spans_Less_1 := rfl
theorem T_slices_Collect_int : T n_slices_Collect_int = some F_slices_Collect_int := rfl
theorem T_slices_Values_sint_int_1 : T n_slices_Values_sint_int_1 = some F_slices_Values_sint_int_1 := rfl
theorem T_slices_Concat_sapi_Span_api_Span : T n_slices_Concat_sapi_Span_api_Span = some F_slices_Concat_sapi_Span_api_Span := rfl
theorem T_slices_AppendSeq_sint_int : T n_slices_AppendSeq_sint_int = some F_slices_AppendSeq_sint_int := rfl
theorem T_ok : ∀ f F, T f = some F → mF Go.Proofs.Try.prog f F = true := by
  intro f F h
  unfold T at h
  obtain ⟨p, hp, rfl⟩ := Option.map_eq_some_iff.1 h
  have h1 := List.mem_of_find?_eq_some hp
  have h2 : p.1 = f := by simpa using List.find?_some hp
  subst h2
  clear h hp
  simp only [tbl, List.mem_cons, List.not_mem_nil, or_false] at h1
  rcases h1 with rfl | rfl | rfl | rfl | rfl | rfl | rfl | rfl | rfl | rfl | rfl | rfl | rfl | rfl | rfl | rfl | rfl | rfl | rfl | rfl | rfl | rfl | rfl | rfl | rfl | rfl | rfl | rfl | rfl | rfl | rfl | rfl
  · exact ok_law03_SpansTells
  · exact ok_law03_SpansSets
  · exact ok_law03_SpansOne
  · exact ok_law03_awake
  · exact ok_ref03_Right
  · exact ok_spans_At
  · exact ok_spans_Right
  · exact ok_spans_Size
  · exact ok_ref03_Size
  · exact ok_spans_Has
  · exact ok_ref03_In
  · exact ok_spans_Place
  · exact ok_ref03_Place
  · exact ok_spans_Of
  · exact ok_ref03_Of
  · exact ok_ref03_Same
  · exact ok_spans_Union
  · exact ok_spans_Meet
  · exact ok_spans_Less
  · exact ok_law03_few
  · exact ok_ref03_Values
  · exact ok_slices_Sorted_int
  · exact ok_slices_Values_sint_int
  · exact ok_spans_put
  · exact ok_spans_parts
  · exact ok_spans_Union_1
  · exact ok_spans_Meet_1
  · exact ok_spans_Less_1
  · exact ok_slices_Collect_int
  · exact ok_slices_Values_sint_int_1
  · exact ok_slices_Concat_sapi_Span_api_Span
  · exact ok_slices_AppendSeq_sint_int
end Go.RR.M
